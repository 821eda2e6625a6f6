/- The engine: a machine that runs loaded code on plain data, and its soundness against the model. -/
import Derived.Calls
import Derived.Deep.Quiet
import Derived.StillTail
import Derived.Laws.Sem
import Derived.Laws.Cells
import Derived.Laws.IdiomCopy
import Derived.Laws.StructEq
import Derived.ChangeKeysEq
/- The engine, part 1: typed pure data, and what it means that machine cells read as such data. -/
namespace Go.Eng

/-- the data types that the engine speaks of -/
inductive OpqK where
  | ptr | fn | mp | ifc
  deriving DecidableEq, Repr
inductive Ty where
  | int (k : IntKind) | bool | str | sl (t : Ty) | arr (n : Nat) (t : Ty) | unit | pair (a b : Ty) | opq (k : OpqK)
  deriving DecidableEq, Repr

@[reducible] def Ty.D : Ty → Type
  | .int _ => Int
  | .bool => Bool
  | .str => ByteArray
  | .sl t => List t.D
  | .arr _ t => List t.D
  | .unit => Unit
  | .pair a b => a.D × b.D
  | .opq _ => Unit

def Ty.size : Ty → Nat
  | .int _ | .bool | .str | .sl _ | .opq _ => 1
  | .arr n t => n * t.size
  | .unit => 0
  | .pair a b => a.size + b.size

def Ty.isAgg : Ty → Bool
  | .arr .. | .unit | .pair .. => true
  | _ => false

/-- the zero value -/
def Ty.zero : (t : Ty) → t.D
  | .int _ => (0 : Int)
  | .bool => false
  | .str => ByteArray.empty
  | .sl _ => []
  | .arr n t => List.replicate n t.zero
  | .unit => ()
  | .pair a b => (a.zero, b.zero)
  | .opq _ => ()

/-- no slice inside -/
def Ty.flat : Ty → Bool
  | .int _ | .bool | .str | .unit => true
  | .sl _ | .opq _ => false
  | .arr _ t => t.flat
  | .pair a b => a.flat && b.flat

def ok (k : IntKind) (n : Int) : Prop := k.min ≤ n ∧ n ≤ k.max
instance (k : IntKind) (n : Int) : Decidable (ok k n) := by unfold ok; exact inferInstance

theorem ok_wrap (k : IntKind) (n : Int) : ok k (k.wrap n) := by
  unfold ok IntKind.wrap IntKind.min IntKind.max
  cases k <;> simp [IntKind.bits, IntKind.signed] <;> (try split) <;> omega

def maxI : Nat := 9223372036854775807

def CellsAt (w : World) (b off : Nat) (es : List Value) : Prop := ∀ j (h : j < es.length), w.cell? ⟨b, off + j, none⟩ = some es[j]

/-- the cells cs read as d, and everything behind them lies in blocks of S -/
def R (w : World) (S : Nat → Prop) : (t : Ty) → t.D → List Value → Prop
  | .int k, n, cs => cs = [.int k n] ∧ ok k n
  | .bool, b, cs => cs = [.bool b]
  | .str, s, cs => cs = [.string s]
  | .sl t, l, cs => ∃ (a : Option Addr) (cap : Nat), cs = [.slice a l.length cap] ∧ l.length ≤ cap ∧ l.length ≤ maxI ∧ (a = none → cap = 0) ∧
      ∀ x, a = some x → 0 < l.length → x.spot = none ∧ S x.block ∧ x.block < w.heap.size ∧
        ∀ i (h : i < l.length), ∃ es, R w S t l[i] es ∧ CellsAt w x.block (x.off + i * t.size) es
  | .arr n t, l, cs => l.length = n ∧ cs.length = n * t.size ∧ ∀ i (h : i < l.length), R w S t l[i] ((cs.drop (i * t.size)).take t.size)
  | .unit, _, cs => cs = []
  | .pair a b, d, cs => R w S a d.1 (cs.take a.size) ∧ R w S b d.2 (cs.drop a.size)
  | .opq _, _, _ => False

theorem R.len {w : World} {S : Nat → Prop} : {t : Ty} → {d : t.D} → {cs : List Value} → R w S t d cs → cs.length = t.size
  | .int _, _, _, h => by simp only [R] at h; simp [h.1, Ty.size]
  | .bool, _, _, h => by simp only [R] at h; simp [h, Ty.size]
  | .str, _, _, h => by simp only [R] at h; simp [h, Ty.size]
  | .sl _, _, _, h => by simp only [R] at h; obtain ⟨a, cap, rfl, _⟩ := h; simp [Ty.size]
  | .arr _ _, _, _, h => by simp only [R] at h; simp [h.2.1, Ty.size]
  | .unit, _, _, h => by simp only [R] at h; simp [h, Ty.size]
  | .pair a b, d, cs, h => by
    simp only [R] at h
    have h1 := R.len h.1
    have h2 := R.len h.2
    simp only [List.length_take, List.length_drop, Ty.size] at *
    omega
  | .opq _, _, _, h => by simp only [R] at h

/-- worlds that agree on the blocks of S -/
def Agree (S : Nat → Prop) (w w' : World) : Prop := ∀ b, S b → b < w.heap.size → w'.heap[b]? = w.heap[b]?

theorem Agree.refl (S : Nat → Prop) (w : World) : Agree S w w := fun _ _ _ => rfl
theorem cell_of {w w' : World} {b o : Nat} (h : w'.heap[b]? = w.heap[b]?) : w'.cell? ⟨b, o, none⟩ = w.cell? ⟨b, o, none⟩ := by
  simp only [World.cell?, h]
theorem CellsAt.of {w w' : World} {b o : Nat} {es : List Value} (h : w'.heap[b]? = w.heap[b]?) (hc : CellsAt w b o es) : CellsAt w' b o es :=
  fun j hj => by rw [cell_of h]; exact hc j hj

/-- a reading stays where its blocks stay -/
theorem R.stay {w w' : World} {S S' : Nat → Prop} (hag : Agree S w w') (hs : ∀ b, S b → b < w.heap.size → S' b) (hz : w.heap.size ≤ w'.heap.size) :
    {t : Ty} → {d : t.D} → {cs : List Value} → R w S t d cs → R w' S' t d cs
  | .int _, _, _, h => by simpa only [R] using h
  | .bool, _, _, h => by simpa only [R] using h
  | .str, _, _, h => by simpa only [R] using h
  | .sl t, l, _, h => by
    simp only [R] at h ⊢
    obtain ⟨a, cap, rfl, hl, hm, hn, hx⟩ := h
    refine ⟨a, cap, rfl, hl, hm, hn, fun x hxa hpos => ?_⟩
    obtain ⟨h1, h2, h3, h4⟩ := hx x hxa hpos
    refine ⟨h1, hs _ h2 h3, by omega, fun i hi => ?_⟩
    obtain ⟨es, he, hc⟩ := h4 i hi
    exact ⟨es, R.stay hag hs hz he, hc.of (hag _ h2 h3)⟩
  | .arr _ t, l, _, h => by
    simp only [R] at h ⊢
    exact ⟨h.1, h.2.1, fun i hi => R.stay hag hs hz (h.2.2 i hi)⟩
  | .unit, _, _, h => by simpa only [R] using h
  | .pair a b, d, _, h => by
    simp only [R] at h ⊢
    exact ⟨R.stay hag hs hz h.1, R.stay hag hs hz h.2⟩
  | .opq _, _, _, h => by simp only [R] at h

def OpqK.nil : OpqK → Value
  | .ptr => .pointer none
  | .fn => .nilFunc
  | .mp => .map none
  | .ifc => .nilIface

/-- the cells of the zero value -/
def Ty.zeros : Ty → List Value
  | .int k => [.int k 0]
  | .bool => [.bool false]
  | .str => [.string ByteArray.empty]
  | .sl _ => [.slice none 0 0]
  | .arr n t => (List.replicate n t.zeros).flatten
  | .unit => []
  | .pair a b => a.zeros ++ b.zeros
  | .opq k => [k.nil]

theorem Ty.zeros_len : (t : Ty) → t.zeros.length = t.size
  | .int _ | .bool | .str | .sl _ | .unit | .opq _ => rfl
  | .arr n t => by simp [Ty.zeros, Ty.size, Ty.zeros_len t, List.length_flatten]
  | .pair a b => by simp [Ty.zeros, Ty.size, Ty.zeros_len a, Ty.zeros_len b]

/-- a type without pointers and the like outside slices -/
def Ty.plain : Ty → Bool
  | .int _ | .bool | .str | .unit | .sl _ => true
  | .opq _ => false
  | .arr _ t => t.plain
  | .pair a b => a.plain && b.plain

theorem ok_zero (k : IntKind) : ok k 0 := by cases k <;> decide

theorem drop_rep {α : Type} (l : List α) (n m : Nat) (hm : l.length = m) : ∀ i, i < n → ((List.replicate n l).flatten.drop (i * m)).take m = l := by
  induction n with
  | zero => intro i hi; omega
  | succ n ih =>
    intro i hi
    cases i with
    | zero => simp [List.replicate_succ, ← hm]
    | succ i =>
      rw [List.replicate_succ, List.flatten_cons, show (i + 1) * m = m + i * m from by rw [Nat.succ_mul]; omega, ← List.drop_drop, ← hm, List.drop_left, hm]
      exact ih i (by omega)

theorem R.zero (w : World) (S : Nat → Prop) : (t : Ty) → t.plain = true → R w S t t.zero t.zeros
  | .int k, _ => by simp [R, Ty.zero, Ty.zeros, ok_zero]
  | .bool, _ => by simp [R, Ty.zero, Ty.zeros]
  | .str, _ => by simp [R, Ty.zero, Ty.zeros]
  | .sl _, _ => by simp only [R, Ty.zero, Ty.zeros]; exact ⟨none, 0, rfl, Nat.le_refl _, Nat.zero_le _, fun _ => rfl, fun x hx => by cases hx⟩
  | .arr n t, h => by
    simp only [R, Ty.zero, Ty.zeros]
    refine ⟨by simp, by simp [Ty.zeros_len t, List.length_flatten], fun i hi => ?_⟩
    rw [drop_rep t.zeros n t.size t.zeros_len i (by simpa using hi)]
    simpa using R.zero w S t h
  | .unit, _ => by simp [R, Ty.zeros]
  | .pair a b, h => by
    simp only [Ty.plain, Bool.and_eq_true] at h
    simp only [R, Ty.zero, Ty.zeros]
    rw [← a.zeros_len, List.take_left, List.drop_left]
    exact ⟨R.zero w S a h.1, R.zero w S b h.2⟩

end Go.Eng

/- The engine, part 2: the abstract machine: it runs loaded Go code on typed pure data, in the text's order, and stops ('none') where it cannot vouch for the result. -/
namespace Go.Eng

inductive Step where
  | fld (i : Nat) | idx (i : Nat)
  deriving DecidableEq
abbrev Path := List Step

/-- abstract values -/
inductive AV where
  | v (g : Bool) (t : Ty) (d : t.D)
  | sl (n : Nat)
  | sub (n off len : Nat)
  | bs (n : Nat) (p : Path)
  | pe (n i : Nat) (p : Path)
  | pb (n : Nat) (p : Path)
  | pr (g : Bool) (t : Ty) (d : t.D)
  | nl (k : OpqK)
  | nils
  | clo (f : Nat) (caps : List Nat)
  | nil
  | cons (h t : AV)
  | ag (l : AV)
  | tup (l : AV)
  | dead

inductive Obj where
  | arr (g : Bool) (t : Ty) (l : List t.D)
  | box (T : Ty) (x : AV)

abbrev Store := List (Nat × Obj)
def Store.get : Store → Nat → Option Obj
  | [], _ => none
  | (m, o) :: s, n => if n = m then some o else Store.get s n
def Store.put : Store → Nat → Obj → Store
  | [], n, o => [(n, o)]
  | (m, o') :: s, n, o => if n < m then (n, o) :: (m, o') :: s else if n = m then (n, o) :: s else (m, o') :: Store.put s n o
def Store.del : Store → Nat → Store
  | [], _ => []
  | (m, o) :: s, n => if n = m then Store.del s n else (m, o) :: Store.del s n

structure St where
  sl : List AV
  ob : Store

/-- forget whatever names object n -/
def AV.kill (n : Nat) : AV → AV
  | .sl m => if m = n then .dead else .sl m
  | .sub m o l => if m = n then .dead else .sub m o l
  | .bs m p => if m = n then .dead else .bs m p
  | .pe m i p => if m = n then .dead else .pe m i p
  | .pb m p => if m = n then .dead else .pb m p
  | .clo f cs => if n ∈ cs then .dead else .clo f cs
  | .cons h t => .cons (h.kill n) (t.kill n)
  | .ag l => .ag (l.kill n)
  | .tup l => .tup (l.kill n)
  | x => x
def Obj.kill (n : Nat) : Obj → Obj
  | .box T x => .box T (x.kill n)
  | o => o
def Store.kill (s : Store) (n : Nat) : Store := s.map fun (m, o) => (m, o.kill n)
def St.kill (st : St) (n : Nat) : St := { sl := st.sl.map (·.kill n), ob := st.ob.kill n }
/-- a new object under a name: what stood under it is gone -/
def St.new (st : St) (n : Nat) (o : Obj) : St :=
  match st.ob.get n with
  | none => { st with ob := st.ob.put n o }
  | some _ => let s := st.kill n; { s with ob := s.ob.put n o }
/-- an object with another content; the names that still speak of it stay -/
def St.upd (st : St) (n : Nat) (o : Obj) : St := { st with ob := st.ob.put n o }

def AV.nth : AV → Nat → AV
  | .cons h _, 0 => h
  | .cons _ t, i + 1 => t.nth i
  | _, _ => .dead
def AV.setNth : AV → Nat → AV → AV
  | .cons _ t, 0, a => .cons a t
  | .cons h t, i + 1, a => .cons h (t.setNth i a)
  | x, _, _ => x
def AV.ofList : List AV → AV
  | [] => .nil
  | a :: l => .cons a (AV.ofList l)

def Ty.fldTy : Ty → Nat → Option Ty
  | .pair a _, 0 => some a
  | .pair _ b, i + 1 => b.fldTy i
  | _, _ => none

def pathOff : Ty → Path → Option (Nat × Ty)
  | t, [] => some (0, t)
  | .pair a _, .fld 0 :: p => pathOff a p
  | .pair a b, .fld (i + 1) :: p => (pathOff b (.fld i :: p)).map fun (o, t) => (a.size + o, t)
  | .arr _ t, .idx i :: p => (pathOff t p).map fun (o, t') => (i * t.size + o, t')
  | _, _ => none
  termination_by structural t => t

section
variable {R : Type}

def gets : (t : Ty) → t.D → Path → ((t' : Ty) → t'.D → Option R) → Option R
  | t, d, [], k => k t d
  | .pair a _, d, .fld 0 :: p, k => gets a d.1 p k
  | .pair _ b, d, .fld (i + 1) :: p, k => gets b d.2 (.fld i :: p) k
  | .arr n t, l, .idx i :: p, k => if i < n then gets t (l.getD i t.zero) p k else none
  | _, _, _, _ => none
  termination_by structural t => t

def sets : (t : Ty) → t.D → Path → (t' : Ty) → t'.D → (t.D → Option R) → Option R
  | t, _, [], t', d', k => if h : t' = t then k (h ▸ d') else none
  | .pair a _, d, .fld 0 :: p, t', d', k => sets a d.1 p t' d' fun x => k (x, d.2)
  | .pair _ b, d, .fld (i + 1) :: p, t', d', k => sets b d.2 (.fld i :: p) t' d' fun x => k (d.1, x)
  | .arr n t, l, .idx i :: p, t', d', k => if i < n then sets t (l.getD i t.zero) p t' d' fun x => k (l.set i x) else none
  | _, _, _, _, _, _ => none
  termination_by structural t => t

/-- may a slot of this type hold the value? -/
def AV.fits (ob : Store) : AV → Ty → Bool
  | .v _ t _, T => t = T
  | .sl n, .sl t0 | .sub n _ _, .sl t0 => match ob.get n with
    | some (.arr _ t _) => t = t0
    | _ => false
  | .bs n p, .sl t0 => match ob.get n with
    | some (.box Tb _) => match pathOff Tb p with
      | some (_, .arr _ t) => t = t0
      | _ => false
    | _ => false
  | .nils, .sl _ => true
  | .pe .., .opq .ptr | .pb .., .opq .ptr | .pr .., .opq .ptr | .clo .., .opq .fn => true
  | .nl k, .opq k' => k = k'
  | .nil, .unit => true
  | .cons h t, .pair a b => h.fits ob a && t.fits ob b
  | .ag l, .pair a b => l.fits ob (.pair a b)
  | _, _ => false

/-- a list of fields, as long as the type says -/
def AV.isL : AV → Ty → Bool
  | .cons _ r, .pair _ b => r.isL b
  | .nil, .unit => true
  | _, _ => false
def Ty.spine : Ty → Bool
  | .unit => true
  | .pair _ b => b.spine
  | _ => false

def explode (g : Bool) : (t : Ty) → t.D → AV
  | .pair a b, d => .cons (.v g a d.1) (explode g b d.2)
  | _, _ => .nil

def getB (x : AV) (p : Path) (k : AV → Option R) : Option R :=
  match p with
  | [] => k x
  | .fld i :: q => match x with
    | .v g t d => gets t d (.fld i :: q) fun t' d' => k (.v g t' d')
    | .ag l => match q, l.nth i with
      | [], h => k h
      | _, .v g t d => gets t d q fun t' d' => k (.v g t' d')
      | _, _ => none
    | _ => none
  | p => match x with
    | .v g t d => gets t d p fun t' d' => k (.v g t' d')
    | _ => none

def setB (ob : Store) (T : Ty) (x : AV) (p : Path) (a : AV) (k : AV → Option R) : Option R :=
  match p with
  | [] => if a.fits ob T then k a else none
  | .fld i :: q => match x with
    | .v g t d => match a with
      | .v g' t' d' => sets t d (.fld i :: q) t' d' fun d'' => k (.v (g && g') t d'')
      | _ => match q, T.fldTy i with
        | [], some tf => if a.fits ob tf ∧ T.spine then k (.ag ((explode g t d).setNth i a)) else none
        | _, _ => none
    | .ag l => match q, T.fldTy i with
      | [], some tf => if a.fits ob tf ∧ l.isL T then k (.ag (l.setNth i a)) else none
      | _, some _ => match l.nth i, a with
        | .v g t d, .v g' t' d' => if l.isL T then sets t d q t' d' fun d'' => k (.ag (l.setNth i (.v (g && g') t d''))) else none
        | _, _ => none
      | _, _ => none
    | _ => none
  | p => match x, a with
    | .v g t d, .v g' t' d' => sets t d p t' d' fun d'' => k (.v (g && g') t d'')
    | _, _ => none

/-- the pure datum that a value shows at this moment -/
def plain (ob : Store) : AV → (Bool → (t : Ty) → t.D → Option R) → Option R
  | .v g t d, k => k g t d
  | .sl n, k => match ob.get n with
    | some (.arr g t l) => k g (.sl t) l
    | _ => none
  | .sub n off len, k => match ob.get n with
    | some (.arr g t l) => k g (.sl t) ((l.drop off).take len)
    | _ => none
  | .bs n p, k => match ob.get n with
    | some (.box _ (.v g t d)) => gets t d p fun t' d' => match t', d' with
      | .arr m t, l => if m ≤ maxI then k g (.sl t) l else none
      | _, _ => none
    | _ => none
  | .ag l, k => plain ob l k
  | .nil, k => k true .unit ()
  | .cons h t, k => plain ob h fun g1 t1 d1 => plain ob t fun g2 t2 d2 => k (g1 && g2) (.pair t1 t2) (d1, d2)
  | _, _ => none

/-- the pure datum of a value that names no object -/
def plainV : AV → (Bool → (t : Ty) → t.D → Option R) → Option R
  | .v g t d, k => k g t d
  | .ag l, k => plainV l k
  | .nil, k => k true .unit ()
  | .cons h t, k => plainV h fun g1 t1 d1 => plainV t fun g2 t2 d2 => k (g1 && g2) (.pair t1 t2) (d1, d2)
  | _, _ => none
def AV.isNils : AV → Bool
  | .nils => true
  | _ => false
def nilsK : (T : Ty) → (Bool → T.D → Option R) → Option R
  | .sl _, k => k true []
  | _, _ => none
def plainT (T : Ty) (x : AV) (k : Bool → T.D → Option R) : Option R :=
  if x.isNils then nilsK T k else plainV x fun g t d => if h : t = T then k g (h ▸ d) else none

/-- the elements of a slice -/
def elemsK (ob : Store) (t : Ty) (x : AV) (k : Bool → List t.D → Option R) : Option R :=
  match x with
  | .nils => k true []
  | .v g (.sl t') l => if h : t' = t then k g (h ▸ l) else none
  | .sl n => match ob.get n with
    | some (.arr g t' l) => if h : t' = t then k g (h ▸ l) else none
    | _ => none
  | .sub n off len => match ob.get n with
    | some (.arr g t' l) => if h : t' = t then k g ((h ▸ l : List t.D).drop off |>.take len) else none
    | _ => none
  | .bs n p => match ob.get n with
    | some (.box _ (.v g t0 d)) => gets t0 d p fun t' d' => match t', d' with
      | .arr m t', l => if h : t' = t then (if m ≤ maxI then k g (h ▸ l) else none) else none
      | _, _ => none
    | _ => none
  | _ => none

/-- is it a plain value already? (then nothing of the call's own memory is handed on) -/
def AV.isV : AV → Bool
  | .v .. => true
  | _ => false

def nints (k : AV → Option R) (j : IntKind) (n : Int) : Option R := k (.v true (.int j) n)

def band (k : IntKind) (a b : Int) : Int := k.wrap (BitVec.ofInt k.bits a &&& BitVec.ofInt k.bits b).toNat
def bor (k : IntKind) (a b : Int) : Int := k.wrap (BitVec.ofInt k.bits a ||| BitVec.ofInt k.bits b).toNat
def bxor (k : IntKind) (a b : Int) : Int := k.wrap (BitVec.ofInt k.bits a ^^^ BitVec.ofInt k.bits b).toNat
def bandn (k : IntKind) (a b : Int) : Int := k.wrap (BitVec.ofInt k.bits a &&& ~~~ BitVec.ofInt k.bits b).toNat
def bshl (k : IntKind) (a b : Int) : Int := k.wrap (a * 2 ^ (min b.toNat k.bits))
def bshr (k : IntKind) (a b : Int) : Int := a.fdiv (2 ^ (min b.toNat k.bits))

/-- '==' on comparable data -/
def Ty.eqB : (t : Ty) → t.D → t.D → Bool
  | .int _, a, b => a == b
  | .bool, a, b => a == b
  | .str, a, b => a == b
  | .arr _ t, l, m => (List.range l.length).all fun i => t.eqB (l.getD i t.zero) (m.getD i t.zero)
  | .pair a b, x, y => a.eqB x.1 y.1 && b.eqB x.2 y.2
  | _, _, _ => true
def Ty.cmp : Ty → Bool
  | .int _ | .bool | .str | .unit => true
  | .arr _ t => t.cmp
  | .pair a b => a.cmp && b.spine && b.cmp
  | _ => false
/-- structs all the way end as structs do -/
def Ty.spineOk : Ty → Bool
  | .pair a b => a.spineOk && b.spine && b.spineOk
  | _ => true
/-- how deep types lie in one another -/
def Ty.dp : Ty → Nat
  | .arr _ t => t.dp + 1
  | .pair a b => max (a.dp + 1) b.dp
  | _ => 1

def intK (op : BinOp) (j : IntKind) (a b : Int) (k : AV → Option R) : Option R :=
  match op with
  | .add => k (.v true (.int j) (j.wrap (a + b)))
  | .sub => k (.v true (.int j) (j.wrap (a - b)))
  | .mul => k (.v true (.int j) (j.wrap (a * b)))
  | .quo => if b = 0 then none else k (.v true (.int j) (j.wrap (a.tdiv b)))
  | .rem => if b = 0 then none else k (.v true (.int j) (a.tmod b))
  | .and => k (.v true (.int j) (band j a b))
  | .or => k (.v true (.int j) (bor j a b))
  | .xor => k (.v true (.int j) (bxor j a b))
  | .andNot => k (.v true (.int j) (bandn j a b))
  | .eql => k (.v true .bool (a == b))
  | .neq => k (.v true .bool (a != b))
  | .lss => k (.v true .bool (decide (a < b)))
  | .leq => k (.v true .bool (decide (a ≤ b)))
  | .gtr => k (.v true .bool (decide (a > b)))
  | .geq => k (.v true .bool (decide (a ≥ b)))
  | _ => none

def shiftK (op : BinOp) (j : IntKind) (a b : Int) (k : AV → Option R) : Option R :=
  match op with
  | .shl => if b < 0 then none else k (.v true (.int j) (bshl j a b))
  | .shr => if b < 0 then none else k (.v true (.int j) (bshr j a b))
  | _ => none

def BinOp.isShift : BinOp → Bool
  | .shl | .shr => true
  | _ => false

/-- '==' or '!=' whose answer is e -/
def eqlK (op : BinOp) (e : Bool) (k : AV → Option R) : Option R :=
  match op with
  | .eql => k (.v true .bool e)
  | .neq => k (.v true .bool (!e))
  | _ => none

def AV.ref : AV → Option OpqK
  | .pb .. | .pe .. | .pr .. => some .ptr
  | .clo .. => some .fn
  | _ => none
def AV.isNl : AV → Option OpqK
  | .nl z => some z
  | _ => none

def refK (tt : Option Ty) (op : BinOp) (x y : AV) (k : AV → Option R) : Option R :=
  match x.isNl, y.isNl with
  | some z, some z' => if tt = some (.opq z) ∧ z' = z ∧ z ≠ .ifc then eqlK op true k else none
  | some z, none => if tt = some (.opq z) ∧ y.ref = some z then eqlK op false k else none
  | none, some z => if tt = some (.opq z) ∧ x.ref = some z then eqlK op false k else none
  | none, none => none

def binK (tt : Option Ty) (op : BinOp) (x y : AV) (k : AV → Option R) : Option R :=
  match x, y with
  | .v _ (.int j) a, .v _ (.int j') b => if BinOp.isShift op then shiftK op j a b k else if j = j' then intK op j a b k else none
  | .v _ .str a, .v _ .str b => eqlK op (a.toList == b.toList) k
  | .v _ .bool a, .v _ .bool b => if tt = some .bool then eqlK op (a == b) k else none
  | .v _ t a, .v _ t' b => if h : t' = t then (if tt = some t ∧ t.cmp ∧ t.dp ≤ 64 then eqlK op (t.eqB a (h ▸ b)) k else none) else none
  | x, y => refK tt op x y k

end

/-- a contract of a callee: results (and what objects they name) for arguments (and what objects they name) -/
abbrev Callee := (R : Type) → Nat → List AV → Store → (AV → Store → Option R) → Option R

structure Ctx where
  /-- a type's number to its data type -/
  TT : Nat → Option Ty
  /-- a slice type's number to the bytes of an element -/
  EB : Nat → Nat
  CT : Nat → Option Callee
  /-- of a callee: which arguments are own arrays that are handed over, and their elements -/
  LD : Nat → List (Option Ty) := fun _ => []
  /-- struct types whose variables' slices begin as own arrays -/
  OW : Nat → Bool := fun _ => false
def Ctx.noOwn (C : Ctx) : Ctx := { C with OW := fun _ => false }

def constAV : Value → AV
  | .int k n => if ok k n then .v true (.int k) n else .dead
  | .bool b => .v true .bool b
  | .string s => .v true .str s
  | .slice none 0 0 => .nils
  | .pointer none => .nl .ptr
  | .nilFunc => .nl .fn
  | .map none => .nl .mp
  | _ => .dead

def St.ev (st : St) : Operand → AV
  | .tmp t => st.sl.getD t .dead
  | .const v => constAV v
  | .func f => .clo f []
  | .global _ => .dead

section
variable {R : Type}

def room : Nat := 140737488355328

/-- other names, other tags -/
def AV.rn (f : Nat → Nat) (τ : Bool → Ty → Bool) : AV → AV
  | .v g t d => .v (τ g t) t d
  | .sl m => .sl (f m)
  | .sub m o l => .sub (f m) o l
  | .bs m p => .bs (f m) p
  | .pe m i p => .pe (f m) i p
  | .pb m p => .pb (f m) p
  | .pr g t d => .pr (τ g t) t d
  | .clo g cs => .clo g (cs.map f)
  | .cons h t => .cons (h.rn f τ) (t.rn f τ)
  | .ag l => .ag (l.rn f τ)
  | .tup l => .tup (l.rn f τ)
  | x => x
def Obj.rn (f : Nat → Nat) (τ : Bool → Ty → Bool) : Obj → Obj
  | .box T x => .box T (x.rn f τ)
  | .arr g t l => .arr (τ g t) t l
/-- all plain data in it is of this sort -/
def AV.allv (p : Bool → Ty → Bool) : AV → Bool
  | .v g t _ | .pr g t _ => p g t
  | .cons h t => h.allv p && t.allv p
  | .ag l | .tup l => l.allv p
  | _ => true
def Obj.allv (p : Bool → Ty → Bool) : Obj → Bool
  | .box _ x => x.allv p
  | .arr g t _ => p g t

/-- data handed on: it is nobody's new memory there -/
def handed (_ : Bool) (t : Ty) : Bool := t.flat
def same (g : Bool) (_ : Ty) : Bool := g
/-- data that can't lie in what the caller owns -/
def unowned (g : Bool) (t : Ty) : Bool := g || t.flat

mutual
def zeroAV : Ty → AV
  | .pair a b => if (Ty.pair a b).plain then .v true (.pair a b) (Ty.zero (.pair a b)) else .ag (.cons (zeroAV a) (zeroL b))
  | .opq k => .nl k
  | .arr n t => if (Ty.arr n t).plain then .v true (.arr n t) (Ty.zero (.arr n t)) else .dead
  | .int k => .v true (.int k) (0 : Int)
  | .bool => .v true .bool false
  | .str => .v true .str ByteArray.empty
  | .sl t => .v true (.sl t) []
  | .unit => .v true .unit ()
  termination_by structural t => t
def zeroL : Ty → AV
  | .pair a b => .cons (zeroAV a) (zeroL b)
  | _ => .nil
  termination_by structural t => t
end

def allV : AV → Bool
  | .nil => true
  | .cons (.v ..) r => allV r
  | _ => false

/-- a bare nil where a slice is wanted -/
def typed (t : Ty) (a : AV) : AV :=
  if a.isNils then (match t with | .sl t => .v true (.sl t) [] | _ => a) else a

/-- the parts of a composite literal, set into a list of fields -/
def fillK (ob : Store) (T : Ty) (l : AV) : List (Nat × AV) → (AV → Option R) → Option R
  | [], k => k l
  | (i, a) :: r, k => match T.fldTy i with
    | some tf => if (typed tf a).fits ob tf then fillK ob T (l.setNth i (typed tf a)) r k else none
    | none => none

def listK (t : Ty) (l : List t.D) : List (Nat × AV) → Bool → (Bool → List t.D → Option R) → Option R
  | [], g, k => k g l
  | (i, a) :: r, g, k => if i < l.length then plainT t a fun g' d => listK t (l.set i d) r (g && g') k else none

def buildK (ob : Store) (t : Ty) (parts : List (Nat × AV)) (k : AV → Option R) : Option R :=
  match t with
  | .pair a b => if (Ty.pair a b).spineOk then
      fillK ob (.pair a b) (zeroL (.pair a b)) parts fun l => if allV l then plainV l fun g t d => k (.v g t d) else k (.ag l)
    else none
  | .arr n t => if t.plain then listK t (List.replicate n t.zero) parts true fun g l => k (.v g (.arr n t) l) else none
  | _ => none

end
end Go.Eng

/- The engine, part 3: operations, code, calls of the abstract machine. -/
namespace Go.Eng

def nm (dst j : Nat) : Nat := 64 + 16 * dst + j

/-- an own array becomes plain data for good -/
def AV.frz (n : Nat) (g : Bool) (t : Ty) (l : List t.D) : AV → AV
  | .sl m => if m = n then .v g (.sl t) l else .sl m
  | .sub m o c => if m = n then .v g (.sl t) ((l.drop o).take c) else .sub m o c
  | .cons h r => .cons (h.frz n g t l) (r.frz n g t l)
  | .ag r => .ag (r.frz n g t l)
  | .tup r => .tup (r.frz n g t l)
  | x => x.kill n
def Obj.frz (n : Nat) (g : Bool) (t : Ty) (l : List t.D) : Obj → Obj
  | .box T x => .box T (x.frz n g t l)
  | o => o

section
variable {R : Type}

def freezeK (st : St) (n : Nat) (k : Bool → (t : Ty) → List t.D → St → Option R) : Option R :=
  if n < 64 then none else
  match st.ob.get n with
  | some (.arr g t l) => k g t l { sl := st.sl.map (·.frz n g t l), ob := (st.ob.del n).map fun (m, o) => (m, o.frz n g t l) }
  | _ => none

/-- whatever a value names, in order -/
def AV.names : AV → List Nat
  | .sl m | .sub m _ _ | .bs m _ | .pe m _ _ | .pb m _ => [m]
  | .clo _ cs => cs
  | .cons h t => h.names ++ t.names
  | .ag l => l.names
  | .tup l => l.names
  | _ => []
/-- own arrays that are about to be kept in memory become plain data -/
def settle : List Nat → St → (St → Option R) → Option R
  | [], st, k => k st
  | n :: r, st, k => match st.ob.get n with
    | none => settle r st k
    | some _ => freezeK st n fun _ _ _ st' => settle r st' k
def Obj.names : Obj → List Nat
  | .box _ x => x.names
  | _ => []
/-- all that is reached from names, each once, in the order met -/
def reach (ob : Store) : Nat → List Nat → List Nat → List Nat
  | 0, _, acc => acc
  | _, [], acc => acc
  | f + 1, n :: r, acc => if n ∈ acc then reach ob f r acc else
    reach ob f (r ++ ((ob.get n).map Obj.names).getD []) (acc ++ [n])

def idxOf (l : List Nat) (n : Nat) : Nat := l.findIdx (· = n)

/-- the objects named, renamed by their place -/
def packS (ob : Store) (f : Nat → Nat) (τ : Bool → Ty → Bool) : Nat → List Nat → Store
  | _, [] => []
  | i, n :: r => match ob.get n with
    | some o => (i, o.rn f τ) :: packS ob f τ (i + 1) r
    | none => packS ob f τ (i + 1) r
def nodupB : List Nat → Bool
  | [] => true
  | n :: r => !r.contains n && nodupB r
/-- each name once, each there, and all that they reach among them -/
def closedB (ob : Store) (L : List Nat) : Bool := nodupB L && L.all fun n => match ob.get n with
  | some o => o.names.all fun m => L.contains m
  | none => false

/-- is it handed on as plain data, out of the call's own memory? -/
def AV.lends : AV → Bool
  | .v .. | .nils | .nl _ | .pb .. | .clo .. => false
  | _ => true
def AV.noPr : AV → Bool
  | .pr .. => false
  | .cons h t => h.noPr && t.noPr
  | .ag l | .tup l => l.noPr
  | _ => true
def Obj.noPr : Obj → Bool
  | .box _ x => x.noPr
  | _ => true

def AV.isSl : AV → Bool
  | .sl _ => true
  | _ => false
/-- arguments, each with its mode: is an own array handed over? -/
def withM : List (Option Ty) → List AV → List (Bool × AV)
  | _, [] => []
  | [], x :: l => (false, x) :: withM [] l
  | m :: ms, x :: l => (m.isSome, x) :: withM ms l
def lendsP (p : Bool × AV) : Bool := p.2.lends && !(p.1 && p.2.isSl)

/-- arguments of a call: plain data, or pointers and functions over what is lent -/
def argsK (ob : Store) (T : List Nat) : List (Bool × AV) → (List AV → Option R) → Option R
  | [], k => k []
  | (b, x) :: l, k =>
    if lendsP (b, x) then
      if x.names.any fun n => T.contains n then none else plain ob x fun g t d => argsK ob T l fun l' => k (.v (handed g t) t d :: l')
    else
      if x.names.all fun n => T.contains n then argsK ob T l fun l' => k (x.rn (idxOf T) handed :: l') else none

def lentNames : List (Bool × AV) → List Nat
  | [] => []
  | (b, x) :: l => if lendsP (b, x) then lentNames l else x.names ++ lentNames l

/-- back in the caller's frame: the first names are those that were lent, the others are new -/
def backName (L : List Nat) (dst j : Nat) : Nat := if j < L.length then L.getD j 0 else nm dst j

def St.kills (st : St) : List Nat → St
  | [] => st
  | n :: r => (st.kill n).kills r

def isArr : Option Obj → Bool
  | some (.arr ..) => true
  | _ => false

def Store.puts (s : Store) (f : Nat → Nat) : Store → Store
  | [] => s
  | (j, o) :: r => (s.puts f r).put (f j) (o.rn f same)

/-- the state behind a call -/
def St.back (st : St) (L : List Nat) (dst : Nat) (ob : Store) : St :=
  let b := backName L dst
  let st1 := st.kills ((L.filter fun m => isArr (st.ob.get m)) ++ ((ob.map fun (j, _) => b j).filter fun m => !L.contains m && (st.ob.get m).isSome))
  { st1 with ob := st1.ob.puts b ob }

def callK (C : Ctx) (n : Nat) (st : St) (f : Nat) (args : List AV) (dst : Nat) (k : AV → St → Option R) : Option R :=
  match C.CT f with
  | none => none
  | some G =>
    let args := withM (C.LD f) args
    let L := reach st.ob 64 (lentNames args) []
    if closedB st.ob L && L.length ≤ 64 && L.all (fun n => ((st.ob.get n).map Obj.noPr).getD true) then
      argsK st.ob L args fun vs =>
        G R n vs (packS st.ob (idxOf L) handed 0 L) fun x ob =>
          if nodupB (ob.map fun (j, _) => backName L dst j) && ob.all (fun (j, o) => (j < L.length || !L.contains (nm dst j)) && o.noPr && o.names.all fun m => (ob.get m).isSome) && x.noPr &&
              (!args.any lendsP || (x.allv unowned && ob.all fun (_, o) => o.allv unowned)) && L.all (fun n => (ob.get (idxOf L n)).isSome) then
            k (x.rn (backName L dst) same) (st.back L dst ob)
          else none
    else none

/-- a bare nil that is handed over as an own array becomes one -/
def prepI (d : Nat) : Nat → List (Option Ty) → List AV → St → (List AV → St → Option R) → Option R
  | _, [], args, st, k => k args st
  | i, none :: F, args, st, k => prepI d (i + 1) F args st k
  | i, some t :: F, args, st, k => match args.getD i .dead with
    | .nils =>
      let st1 := St.new { st with sl := st.sl ++ args } (nm d (15 - i)) (.arr true t [])
      prepI d (i + 1) F ((st1.sl.drop st.sl.length).set i (.sl (nm d (15 - i)))) { st1 with sl := st1.sl.take st.sl.length } k
    | _ => prepI d (i + 1) F args st k

/-- bytes of a string, a string of bytes -/
def bytesL (s : ByteArray) : List Int := s.data.toList.map fun b => (b.toNat : Int)
def strL (l : List Int) : ByteArray := ⟨(l.map fun n => UInt8.ofNat n.toNat).toArray⟩

def loadK (C : Ctx) (st : St) (T : Nat) (p : AV) (k : AV → Option R) : Option R :=
  match p with
  | .pr g t d => if C.TT T = some t then k (.v g t d) else none
  | .pe n i q => match st.ob.get n with
    | some (.arr g t l) => gets t (l.getD i t.zero) q fun t' d => if C.TT T = some t' then k (.v g t' d) else none
    | _ => none
  | .pb n q => match st.ob.get n, C.TT T with
    | some (.box _ x), some t => getB x q fun a => if a.fits st.ob t then k a else none
    | _, _ => none
  | _ => none

def storeInto (C : Ctx) (st : St) (T : Nat) (p a : AV) (k : St → Option R) : Option R :=
  match p with
  | .pe n i q => match st.ob.get n, a with
    | some (.arr g t l), .v g' t' d' => if C.TT T = some t' then sets t (l.getD i t.zero) q t' d' fun x => k (st.upd n (.arr (g && g') t (l.set i x))) else none
    | _, _ => none
  | .pb n q => match st.ob.get n, C.TT T with
    | some (.box Tb x), some t => if a.fits st.ob t then setB st.ob Tb x q a fun x' => k (st.upd n (.box Tb x')) else none
    | _, _ => none
  | _ => none

def storeK (C : Ctx) (st : St) (T : Nat) (p x : Operand) (k : St → Option R) : Option R :=
  let go (st : St) : Option R := match st.ev x, C.TT T with
    | .nils, some (.sl t) => storeInto C st T (st.ev p) (.v true (.sl t) []) k
    | .ag l, _ => (match st.ev p with
      | .pe .. => plainV l fun g t d => storeInto C st T (st.ev p) (.v g t d) k
      | _ => storeInto C st T (st.ev p) (.ag l) k)
    | a, _ => storeInto C st T (st.ev p) a k
  match st.ev p with
  | .pe .. => settle (st.ev x).names st go
  | _ => go st

def indexAddrI (C : Ctx) (st : St) (T : Nat) (x : AV) (i : Int) (k : AV → Option R) : Option R :=
    match C.TT T with
    | some (.sl t) => match x with
      | .v g t' l => match t', l with
        | .sl t', l => if t' = t then (if 0 ≤ i ∧ i < (l.length : Int) then k (.pr g t' (l.getD i.toNat t'.zero)) else none) else none
        | _, _ => none
      | .sl n => match st.ob.get n with
        | some (.arr _ t' l) => if t' = t then (if 0 ≤ i ∧ i < (l.length : Int) then k (.pe n i.toNat []) else none) else none
        | _ => none
      | .sub n off len => match st.ob.get n with
        | some (.arr _ t' _) => if t' = t then (if 0 ≤ i ∧ i < (len : Int) then k (.pe n (off + i.toNat) []) else none) else none
        | _ => none
      | _ => none
    | some (.arr m t) => if t.size = 0 then none else match x with
      | .pb n q => match st.ob.get n with
        | some (.box Tb _) => if (pathOff Tb q).map (·.2) = some (.arr m t) then (if 0 ≤ i ∧ i < (m : Int) then k (.pb n (q ++ [.idx i.toNat])) else none) else none
        | _ => none
      | .pe n j q => match st.ob.get n with
        | some (.arr _ t' _) => if (pathOff t' q).map (·.2) = some (.arr m t) then (if 0 ≤ i ∧ i < (m : Int) then k (.pe n j (q ++ [.idx i.toNat])) else none) else none
        | _ => none
      | .pr g t' l => match t', l with
        | .arr m' t', l => if m' = m ∧ t' = t then (if 0 ≤ i ∧ i < (m : Int) then k (.pr g t' (l.getD i.toNat t'.zero)) else none) else none
        | _, _ => none
      | _ => none
    | _ => none
def indexAddrK (C : Ctx) (st : St) (T : Nat) (x ix : AV) (k : AV → Option R) : Option R :=
  match ix with
  | .v _ (.int _) i => indexAddrI C st T x i k
  | _ => none

def fieldAddrK (C : Ctx) (st : St) (T : Nat) (x : AV) (i : Nat) (k : AV → Option R) : Option R :=
  match C.TT T with
  | some (.pair a b) => match (Ty.pair a b).fldTy i with
    | some tf => if tf.size = 0 then none else match x with
      | .pb n q => match st.ob.get n with
        | some (.box Tb _) => if (pathOff Tb q).map (·.2) = some (.pair a b) then k (.pb n (q ++ [.fld i])) else none
        | _ => none
      | .pe n j q => match st.ob.get n with
        | some (.arr _ t' _) => if (pathOff t' q).map (·.2) = some (.pair a b) then k (.pe n j (q ++ [.fld i])) else none
        | _ => none
      | .pr g t d => if t = .pair a b then gets t d [.fld i] fun t' d' => k (.pr g t' d') else none
      | _ => none
    | none => none
  | _ => none

def fieldK (C : Ctx) (ob : Store) (T : Nat) (x : AV) (i : Nat) (k : AV → Option R) : Option R :=
  match C.TT T, x with
  | some T, .v g t d => if t = T then gets t d [.fld i] fun t' d' => k (.v g t' d') else none
  | some T, .ag l => match T.fldTy i with
    | some tf => if (AV.ag l).fits ob T ∧ (l.nth i).fits ob tf then k (l.nth i) else none
    | none => none
  | _, _ => none

def indexI (C : Ctx) (T : Nat) (x : AV) (i : Int) (k : AV → Option R) : Option R :=
  match x with
  | .v g t d => match t, d with
    | .arr m t, l => if C.TT T = some (.arr m t) then (if 0 ≤ i ∧ i < (m : Int) then k (.v g t (l.getD i.toNat t.zero)) else none) else none
    | .str, s => if C.TT T = some .str then (if 0 ≤ i ∧ i < (s.size : Int) then k (.v true (.int .u8) ((bytesL s).getD i.toNat 0)) else none) else none
    | _, _ => none
  | _ => none
def indexK (C : Ctx) (T : Nat) (x ix : AV) (k : AV → Option R) : Option R :=
  match ix with
  | .v _ (.int _) i => indexI C T x i k
  | _ => none

/-- bounds of a slice expression over a length: low, high; a third index may not lie beyond the length -/
def AV.int? : AV → Option Int
  | .v _ (.int _) i => some i
  | _ => none
def loK (h : Nat) (lo : Option AV) (k : Nat → Nat → Option R) : Option R :=
  match lo with
  | none => k 0 h
  | some a => match a.int? with
    | some a => if 0 ≤ a ∧ a ≤ (h : Int) then k a.toNat h else none
    | none => none
def boundsK (len : Nat) (lo hi mx : Option AV) (k : Nat → Nat → Option R) : Option R :=
  match mx with
  | none => match hi with
    | none => loK len lo k
    | some b => match b.int? with
      | some b => if 0 ≤ b ∧ b ≤ (len : Int) then loK b.toNat lo k else none
      | none => none
  | some c => match c.int?, hi with
    | some c, some b => match b.int? with
      | some b => if 0 ≤ c ∧ c ≤ (len : Int) then (if 0 ≤ b ∧ b ≤ c then loK b.toNat lo k else none) else none
      | none => none
    | _, _ => none

def cutL {α : Type} (l : List α) (lo hi : Nat) : List α := (l.take hi).drop lo

def sliceK (C : Ctx) (st : St) (T : Nat) (x : AV) (lo hi mx : Option AV) (k : AV → Option R) : Option R :=
  match C.TT T with
  | some (.sl t) => match x with
    | .v g t' l => match t', l with
      | .sl t', l => if t' = t then boundsK l.length lo hi mx fun a b => k (.v g (.sl t') (cutL l a b)) else none
      | _, _ => none
    | .sl n => match st.ob.get n with
      | some (.arr _ t' l) => if t' = t then boundsK l.length lo hi mx fun a b => k (.sub n a (b - a)) else none
      | _ => none
    | .sub n off len => match st.ob.get n with
      | some (.arr _ t' _) => if t' = t then boundsK len lo hi mx fun a b => k (.sub n (off + a) (b - a)) else none
      | _ => none
    | _ => none
  | some (.arr m t) => match x, lo, hi, mx with
    | .pb n q, none, none, none => match st.ob.get n with
      | some (.box Tb _) => if (pathOff Tb q).map (·.2) = some (.arr m t) then k (.bs n q) else none
      | _ => none
    | .pr g t' l, _, _, _ => match t', l with
      | .arr m' t', l => if m' = m ∧ t' = t then (if m ≤ maxI then boundsK m lo hi mx fun a b => k (.v g (.sl t') (cutL l a b)) else none) else none
      | _, _ => none
    | _, _, _, _ => none
  | some .str => match x with
    | .v _ .str s => match mx with
      | none => boundsK s.size lo hi none fun a b => k (.v true .str (s.extract a b))
      | _ => none
    | _ => none
  | _ => none

def lenK (C : Ctx) (st : St) (T : Nat) (x : AV) (k : AV → Option R) : Option R :=
  match C.TT T with
  | some (.sl _) => match x with
    | .v _ t l => match t, l with
      | .sl _, l => k (.v true (.int .i64) (l.length : Int))
      | _, _ => none
    | .sl n => match st.ob.get n with
      | some (.arr _ _ l) => k (.v true (.int .i64) (l.length : Int))
      | _ => none
    | .sub _ _ len => k (.v true (.int .i64) (len : Int))
    | .bs n q => match st.ob.get n with
      | some (.box Tb _) => match pathOff Tb q with
        | some (_, .arr m _) => if m ≤ maxI then k (.v true (.int .i64) (m : Int)) else none
        | _ => none
      | _ => none
    | .nils => k (.v true (.int .i64) 0)
    | _ => none
  | some (.arr m _) => if m ≤ maxI then k (.v true (.int .i64) (m : Int)) else none
  | some .str => match x with
    | .v _ .str s => if s.size ≤ maxI then k (.v true (.int .i64) (s.size : Int)) else none
    | _ => none
  | _ => none

def zerosK (c : Int) (t : Ty) (k : List t.D → Option R) : Option R := if 0 ≤ c then k (List.replicate c.toNat t.zero) else none

/-- an own array with more elements: what else spoke of it is forgotten -/
def St.grow (st : St) (n : Nat) (o : Obj) : St := { st.kill n with ob := (st.kill n).ob.put n o }

def putK (C : Ctx) (st : St) (T0 : Nat) (t : Ty) (s : AV) (dst : Nat) (g' : Bool) (ys : List t.D) (k : AV → St → Option R) : Option R :=
  match s with
  | .sl n => match st.ob.get n with
    | some (.arr g t' l) => if h : t = t' then
        if 0 < C.EB T0 ∧ (l.length + ys.length) * C.EB T0 ≤ room then k (.sl n) (st.grow n (.arr (g && g') t' (l ++ h ▸ ys))) else none
      else none
    | _ => none
  | .nils => if 0 < C.EB T0 ∧ (0 + ys.length) * C.EB T0 ≤ room then k (.sl (nm dst 0)) ((st.new (nm dst 0) (.arr true t [])).grow (nm dst 0) (.arr g' t ys)) else none
  | _ => none

def castL {t t' : Ty} (h : t = t') (l : List t.D) : List t'.D := h ▸ l

def appendK (C : Ctx) (st : St) (T0 T1 : Nat) (s x : AV) (dst : Nat) (k : AV → St → Option R) : Option R :=
  match C.TT T0 with
  | some (.sl t) => match C.TT T1 with
    | some (.sl t1) => if t1 = t then elemsK st.ob t x fun g' ys => putK C st T0 t s dst (g' || t.flat) ys k else none
    | some (.int _) => match x with
      | .v _ (.int .i64) c => if t.plain then zerosK c t fun ys => putK C st T0 t s dst true ys k else none
      | _ => none
    | some .str => match x with
      | .v _ .str b => if h : Ty.int .u8 = t then putK C st T0 t s dst true (castL h (bytesL b)) k else none
      | _ => none
    | _ => none
  | _ => none

def copyInto (st : St) (n off len : Nat) (t : Ty) (g' : Bool) (ys : List t.D) (k : AV → St → Option R) : Option R :=
  match st.ob.get n with
  | some (.arr g t' l) => if h : t = t' then
      k (.v true (.int .i64) ((min ys.length len : Nat) : Int)) (st.upd n (.arr (g && g') t' (l.take off ++ (castL h ys).take (min ys.length len) ++ l.drop (off + min ys.length len))))
    else none
  | _ => none

def copyK (C : Ctx) (st : St) (T0 T1 : Nat) (d x : AV) (k : AV → St → Option R) : Option R :=
  match C.TT T0 with
  | some (.sl t) => match C.TT T1 with
    | some (.sl t1) => if t1 = t then elemsK st.ob t x fun g' ys =>
        match d with
        | .sl n => match st.ob.get n with
          | some (.arr _ _ l) => copyInto st n 0 l.length t g' ys k
          | _ => none
        | .sub n off len => copyInto st n off len t g' ys k
        | _ => none
      else none
    | _ => none
  | _ => none

def convertK (C : Ctx) (st : St) (src dst : Nat) (x : AV) (k : AV → St → Option R) : Option R :=
  match C.TT src, C.TT dst with
  | some (.int _), some (.int j) => match x with
    | .v _ (.int _) n => k (.v true (.int j) (j.wrap n)) st
    | _ => none
  | some .str, some .str => match x with
    | .v g .str s => k (.v g .str s) st
    | _ => none
  | some (.sl (.int .u8)), some .str => elemsK st.ob (.int .u8) x fun _ l => k (.v true .str (strL l)) st
  | _, _ => none

def unK (op : UnOp) (x : AV) (k : AV → Option R) : Option R :=
  match op, x with
  | .neg, .v _ (.int j) n => k (.v true (.int j) (j.wrap (0 - n)))
  | .xor, .v _ (.int j) n => k (.v true (.int j) (bxor j (if j.signed then -1 else j.max) n))
  | .not, .v _ .bool b => k (.v true .bool (!b))
  | _, _ => none

def pickK (c a b : AV) (k : AV → Option R) : Option R :=
  match c with
  | .v _ .bool c => match a, b with
    | .v _ .bool x, .v _ .bool y => k (.v true .bool (if c = true then x else y))
    | .v _ (.int j) x, .v _ (.int j') y => if j = j' then k (.v true (.int j) (if c = true then x else y)) else none
    | a, b => if c = true then k a else k b
  | _ => none

def minmaxK (mx : Bool) : List AV → (AV → Option R) → Option R
  | [], _ => none
  | .v _ (.int j) x :: r, k => go j x r k
  | _, _ => none
where
  go (j : IntKind) (x : Int) : List AV → (AV → Option R) → Option R
  | [], k => k (.v true (.int j) x)
  | .v _ (.int j') y :: r, k => if j' = j then go j (if mx then (if y > x then y else x) else (if y < x then y else x)) r k else none
  | _, _ => none

def makeI (C : Ctx) (st : St) (T : Nat) (t : Ty) (l c : Int) (dst : Nat) (k : AV → St → Option R) : Option R :=
  if 0 ≤ l ∧ l ≤ c ∧ c * (C.EB T : Int) ≤ (room : Int) then
    if t.plain then k (.sl (nm dst 0)) (st.new (nm dst 0) (.arr true t (List.replicate l.toNat t.zero))) else none
  else none
def makeSliceK (C : Ctx) (st : St) (T : Nat) (l c : AV) (dst : Nat) (k : AV → St → Option R) : Option R :=
  match C.TT T with
  | some (.sl t) => match l, c with
    | .v _ (.int .i64) l, .v _ (.int .i64) c => makeI C st T t l c dst k
    | _, _ => none
  | _ => none

/-- a new box -/
def boxK (st : St) (t : Ty) (a : AV) (n : Nat) (k : AV → St → Option R) : Option R :=
  if (a.kill n).fits st.ob t then k (.pb n []) (st.new n (.box t (a.kill n))) else none

/-- all names, or none -/
def boxNames : List AV → Option (List Nat)
  | [] => some []
  | .pb n [] :: r => (boxNames r).map (n :: ·)
  | _ => none

/-- is there a part of this number? -/
def AV.has : AV → Nat → Bool
  | .cons _ _, 0 => true
  | .cons _ t, i + 1 => t.has i
  | _, _ => false

/-- a struct's zero value, bare nils for its slices -/
def zeroF : Ty → AV
  | .sl _ => .nils
  | a => zeroAV a
def zeroN : Ty → AV
  | .pair a b => .cons (zeroF a) (zeroN b)
  | _ => .nil
def buildN (ob : Store) (t : Ty) (parts : List (Nat × AV)) (k : AV → Option R) : Option R :=
  match t with
  | .pair a b => if (Ty.pair a b).spineOk then fillK ob (.pair a b) (zeroN (.pair a b)) parts fun l => k (.ag l) else none
  | _ => none
/-- bare nils in an own struct become own arrays -/
def ownH (T : Ty) (x : AV) : Option Ty := match T with
  | .pair (.sl t) _ => if x.isNils then some t else none
  | _ => none
def Ty.tl : Ty → Ty
  | .pair _ b => b
  | t => t
def ownB (d : Nat) : Nat → Ty → AV → AV
  | i, T, .cons x r => .cons (match ownH T x with | some _ => .sl (nm d i) | none => x) (ownB d (i + 1) T.tl r)
  | _, _, x => x
def ownBS (d : Nat) : Nat → Ty → AV → St → St
  | i, T, .cons x r, st => ownBS d (i + 1) T.tl r (match ownH T x with | some t => st.new (nm d i) (.arr true t []) | none => st)
  | _, _, _, st => st
def boxOwnK (st : St) (t : Ty) (l : AV) (d : Nat) (k : AV → St → Option R) : Option R :=
  if (l.names.all (fun n => decide (n < nm d 0)) && (AV.ag l).fits st.ob t) = true then
    k (.pb (nm d 0) []) ((ownBS d 1 t l st).new (nm d 0) (.box t (.ag (ownB d 1 t l))))
  else none
def AV.ag? : AV → Option AV
  | .ag l => some l
  | _ => none

def opK (C : Ctx) (n : Nat) (st : St) (o : Oper) (k : AV → St → Option R) : Option R :=
  let d := o.dst.getD 0
  match o.op with
  | .move x | .assign x => match st.ev x, C.TT o.type with
    | .nils, some (.sl t) => k (.sl (nm d 0)) (st.new (nm d 0) (.arr true t []))
    | a, _ => k a st
  | .pick c a b => pickK (st.ev c) (st.ev a) (st.ev b) fun x => k x st
  | .alloc T => match C.TT T with
    | some t => if t.spineOk then (if C.OW T = true then boxOwnK st t (zeroN t) d k else k (.pb (nm d 0) []) (st.new (nm d 0) (.box t (zeroAV t)))) else none
    | none => none
  | .box T x => match C.TT T with
    | some t => match (if C.OW T = true then (st.ev x).ag? else none) with
      | some l => boxOwnK st t l d k
      | none => boxK st t (typed t (st.ev x)) (nm d 0) k
    | none => none
  | .build T parts => match C.TT T with
    | some t => if C.OW T = true then buildN st.ob t (parts.toList.map fun (i, x) => (i, st.ev x)) fun x => k x st else buildK st.ob t (parts.toList.map fun (i, x) => (i, st.ev x)) fun x => k x st
    | none => none
  | .buildSlice T len parts => match C.TT T with
    | some (.sl t) => if len * t.size ≤ 2 ^ 24 ∧ len ≤ maxI ∧ t.plain then
        settle (parts.toList.flatMap fun (_, x) => (st.ev x).names) st fun st =>
          listK t (List.replicate len t.zero) (parts.toList.map fun (i, x) => (i, st.ev x)) true fun g l =>
            k (.sl (nm d 0)) (st.new (nm d 0) (.arr g t l))
      else none
    | _ => none
  | .load T a => loadK C st T (st.ev a) fun x => k x st
  | .store T a x => storeK C st T a x fun st' => k .dead st'
  | .nilCheck x => match st.ev x with
    | .pb n p => k (.pb n p) st
    | .pe n i p => k (.pe n i p) st
    | .pr g t d => k (.pr g t d) st
    | .clo f cs => k (.clo f cs) st
    | _ => none
  | .binOp op T x y _ => binK (C.TT T) op (st.ev x) (st.ev y) fun z => k z st
  | .unOp op _ x => unK op (st.ev x) fun z => k z st
  | .convert s t x => convertK C st s t (st.ev x) fun z st' => k z st'
  | .makeFunc (.func f) first captured => if first.size = 0 then
      match boxNames (captured.toList.map st.ev) with
      | some cs => k (.clo f cs) st
      | none => none
    else none
  | .makeSlice T l c => makeSliceK C st T (st.ev l) (st.ev c) d k
  | .slice T x lo hi mx => sliceK C st T (st.ev x) (lo.map st.ev) (hi.map st.ev) (mx.map st.ev) fun z => k z st
  | .fieldAddr T x i => fieldAddrK C st T (st.ev x) i fun z => k z st
  | .field T x i => fieldK C st.ob T (st.ev x) i fun z => k z st
  | .indexAddr T x i => indexAddrK C st T (st.ev x) (st.ev i) fun z => k z st
  | .index T x i => indexK C T (st.ev x) (st.ev i) fun z => k z st
  | .extract t i => match st.ev t with
    | .tup l => if l.has i then k (l.nth i) st else none
    | _ => none
  | .call c => match c.callee with
    | .builtin .len => match c.argTypes.toList, c.args.toList with
      | [T], [x] => lenK C st T (st.ev x) fun z => k z st
      | _, _ => none
    | .builtin .append => match c.argTypes.toList, c.args.toList with
      | [T0, T1], [s, x] => appendK C st T0 T1 (st.ev s) (st.ev x) d k
      | _, _ => none
    | .builtin .min => minmaxK false (c.args.toList.map st.ev) fun z => k z st
    | .builtin .max => minmaxK true (c.args.toList.map st.ev) fun z => k z st
    | .value f => match st.ev f with
      | .clo f cs => prepI d 0 (C.LD f) (c.args.toList.map st.ev ++ cs.map fun m => .pb m []) st fun args st => callK C n st f args d k
      | _ => none
    | _ => none
  | _ => none

def St.set (st : St) (d : Option Nat) (x : AV) : St :=
  match d with
  | some d => { st with sl := st.sl.set d x }
  | none => st

/-- flat data needs nobody's memory: its tag says so -/
def AV.norm : AV → AV
  | .v g t d => .v (g || t.flat) t d
  | x => x

/-- a guarded operation: what its test has told is known from there on -/
def guardK (ops : Array Oper) (o : Oper) (st : St) (yes no : St → Option R) : Option R :=
  match o.guard with
  | none => yes st
  | some (j, want) => match (ops[j]?).bind (·.dst) with
    | none => none
    | some d => match st.sl.getD d .dead with
      | .v g .bool b => if b = true then (if want then yes else no) (st.set (some d) (.v g .bool true)) else (if want then no else yes) (st.set (some d) (.v g .bool false))
      | .tup .nil => no st
      | _ => none
/-- behind a region nobody asks whether an operation was passed over -/
def AV.fade : AV → AV
  | .tup .nil => .dead
  | x => x
def St.fade (st : St) : St := { st with sl := st.sl.map AV.fade }

def runOps (C : Ctx) (n : Nat) (ops : Array Oper) : List Nat → St → (St → Option R) → Option R
  | [], st, k => k st
  | i :: r, st, k => match ops[i]? with
    | none => none
    | some o => guardK ops o st
      (fun st => opK C n st o fun x st' => runOps C n ops r (st'.set o.dst x.norm) k)
      (fun st => runOps C n ops r (st.set o.dst (.tup .nil)) k)

/-- data without memory, arrays apart: their value is known -/
def Ty.simple : Ty → Bool
  | .int _ | .bool | .str | .unit => true
  | .pair a b => a.simple && b.simple
  | _ => false
def AV.rigid : AV → Bool
  | .v _ t _ => t.simple
  | _ => false
/-- a call that is lent nothing and gives known data -/
def callQ (C : Ctx) (st : St) (f : Nat) (args : List AV) (k : AV → Option R) : Option R :=
  match C.CT f with
  | none => none
  | some G => if (reach st.ob 64 (lentNames (withM (C.LD f) args)) []).isEmpty then
      argsK st.ob [] (withM (C.LD f) args) fun vs => G R 0 vs [] fun x ob => if (ob.isEmpty && x.rigid) = true then k x else none
    else none
/-- operations that change nothing -/
def opQ (C : Ctx) (st : St) (o : Oper) (k : AV → Option R) : Option R :=
  match o.op with
  | .move x | .assign x => if (st.ev x).isNils then none else k (st.ev x)
  | .pick c a b => pickK (st.ev c) (st.ev a) (st.ev b) k
  | .load T a => loadK C st T (st.ev a) k
  | .nilCheck _ => opK C 0 st o fun z _ => k z
  | .binOp op T x y _ => binK (C.TT T) op (st.ev x) (st.ev y) k
  | .unOp op _ x => unK op (st.ev x) k
  | .convert s t x => match C.TT s, C.TT t, st.ev x with
    | some (.int _), some (.int j), .v _ (.int _) n => k (.v true (.int j) (j.wrap n))
    | _, _, _ => none
  | .slice T x lo hi mx => sliceK C st T (st.ev x) (lo.map st.ev) (hi.map st.ev) (mx.map st.ev) k
  | .fieldAddr T x i => fieldAddrK C st T (st.ev x) i k
  | .field T x i => fieldK C st.ob T (st.ev x) i k
  | .indexAddr T x i => indexAddrK C st T (st.ev x) (st.ev i) k
  | .index T x i => indexK C T (st.ev x) (st.ev i) k
  | .build T parts => match C.TT T with
    | some t => buildK st.ob t (parts.toList.map fun p => (p.1, st.ev p.2)) k
    | none => none
  | .extract t i => match st.ev t with
    | .tup l => if l.has i then k (l.nth i) else none
    | _ => none
  | .call c => match c.callee with
    | .builtin .len => match c.argTypes.toList, c.args.toList with
      | [T], [x] => lenK C st T (st.ev x) k
      | _, _ => none
    | .value f => match st.ev f with
      | .clo f [] => callQ C st f (c.args.toList.map st.ev) k
      | _ => none
    | _ => none
  | _ => none
def runQ (C : Ctx) (ops : Array Oper) : List Oper → St → (St → Option R) → Option R
  | [], st, k => k st
  | o :: r, st, k => guardK ops o st (fun st => opQ C st o fun x => runQ C ops r (st.set o.dst x.norm) k) (fun st => runQ C ops r (st.set o.dst (.tup .nil)) k)

inductive Ex where
  | normal | exit (id : Nat) | ret

/-- what an operation gives: a value; an object of its own -/
abbrev Out := AV × Option (Nat × Obj)
def St.out (st : St) (d : Option Nat) (x : Out) : St :=
  ({ st with ob := match x.2 with | none => st.ob | some (n, o) => st.ob.put n o } : St).set d x.1
def dstOf (ops : Array Oper) (i : Nat) : Option Nat := (ops[i]?).bind (·.dst)
/-- the first state and what the operations of a list gave -/
def sig (ops : Array Oper) (outs : List Out) (st : St) : List Nat → St
  | [] => st
  | i :: L => (sig ops outs st L).out (dstOf ops i) (outs.getD i (.dead, none))
def newOf (outs : List Out) (i : Nat) : Option Nat := (outs.getD i (.dead, none)).2.map (·.1)

/-! ### the run -/
def deps (ops : Array Oper) (i : Nat) : List Nat := match ops[i]? with
  | some o => (o.after.toList.filter fun e => Region.binds .any e).map (·.on)
  | none => []
def union (l m : List Nat) : List Nat := l ++ m.filter fun x => !l.contains x
/-- what must have been done before -/
def ancs (ops : Array Oper) : Nat → List Nat → List Nat
  | 0, l => l
  | k + 1, l => ancs ops k (union l (l.flatMap (deps ops)))
def maskO (keep : List Nat) : List AV → Nat → List AV
  | [], _ => []
  | x :: l, i => (if keep.contains i then x else .dead) :: maskO keep l (i + 1)
def looks (o : Oper) : List Nat := o.op.operands.toList.filterMap fun | .tmp t => some t | _ => none
def mAt (ops : Array Oper) (outs : List Out) (st : St) (i : Nat) (o : Oper) : St :=
  let s := sig ops outs st (ancs ops ops.size (deps ops i))
  { s with sl := maskO (looks o) s.sl 0 }
def St.mentions (m : St) : List Nat := (m.ob.flatMap fun p => p.2.names) ++ m.sl.flatMap AV.names
def allocB : Op → Bool
  | .alloc _ | .buildSlice .. | .makeSlice .. => true
  | _ => false
def nameOf (ops : Array Oper) (i : Nat) : Nat := nm ((dstOf ops i).getD 0) 0
def allocAt (ops : Array Oper) (i : Nat) : Bool := ((ops[i]?).map fun o => allocB o.op).getD false
def buildsPlain (m : St) (o : Oper) : Bool := match o.op with
  | .buildSlice _ _ parts => (parts.toList.flatMap fun p => (m.ev p.2).names).isEmpty
  | _ => true
def okI (ops : Array Oper) (m : St) (i : Nat) (o : Oper) : Bool :=
  let A := ancs ops ops.size (deps ops i)
  (List.range ops.size).all fun j => A.contains j || ((j == i || ((dstOf ops j).map fun d => !(looks o).contains d).getD true) && (!allocAt ops j || !m.mentions.contains (nameOf ops j)))
/-- what is asked of the region as a whole -/
def okG (ops : Array Oper) (st : St) : Bool :=
  (List.range ops.size).all fun i => ((deps ops i).all fun j => decide (j < i)) &&
    ((dstOf ops i).map fun d => decide (d < st.sl.length) && (List.range i).all fun j => dstOf ops j != some d).getD true &&
    (!allocAt ops i || ((dstOf ops i).isSome && (st.ob.get (nameOf ops i)).isNone))
def guardD (ops : Array Oper) (i : Nat) (o : Oper) (outs : List Out) (yes no : List Out → Option R) : Option R :=
  match o.guard with
  | none => yes outs
  | some (j, want) => if (deps ops i).contains j && (dstOf ops j).isSome then match outs[j]? with
    | some (.v g .bool b, none) => if b = true then (if want then yes else no) (outs.set j (.v g .bool true, none)) else (if want then no else yes) (outs.set j (.v g .bool false, none))
    | some (.tup .nil, none) => no outs
    | _ => none
    else none
def stepD (C : Ctx) (ops : Array Oper) (st : St) (i : Nat) (o : Oper) (outs : List Out) (k : Out → Option R) : Option R :=
  let m := mAt ops outs st i o
  if okI ops m i o = true then
    if allocB o.op = true then
      if buildsPlain m o = true then opK C.noOwn 0 m o fun z st' => match st'.ob.get (nm (o.dst.getD 0) 0) with
        | some ob => k (z, some (nm (o.dst.getD 0) 0, ob))
        | none => none
      else none
    else opQ C m o fun z => k (z.norm, none)
  else none
def runD (C : Ctx) (ops : Array Oper) (st : St) : List Oper → List Out → (List Out → Option R) → Option R
  | [], outs, k => k outs
  | o :: r, outs, k => guardD ops outs.length o outs
    (fun outs => stepD C ops st outs.length o outs fun x => runD C ops st r (outs ++ [x]) k)
    (fun outs => runD C ops st r (outs ++ [(.tup .nil, none)]) k)

def canon (n0 n : Nat) : Array Bool := ((List.range n).map fun i => decide (i < n0)).toArray
/-- from where on the operations follow one another -/
def cutAt (ops : Array Oper) : Nat :=
  (((List.range ops.size).find? fun n0 => (List.range ops.size).all fun t => decide (t < n0) || (List.range t).all fun j => (ancs ops ops.size (deps ops t)).contains j)).getD ops.size
def tailOk (ops : Array Oper) (n0 : Nat) : Bool :=
  decide (n0 ≤ ops.size) && ((List.range ops.size).all fun t => decide (t < n0) || (List.range n0).all fun j => (ancs ops ops.size (deps ops t)).contains j) &&
    (Region.seqB .any ops (ops.size - n0) n0 (canon n0 ops.size) && (ops.extract 0 n0).toList.all fun o => match o.guard with | some (j, _) => decide (j < n0) | none => true)
/-- what is kept at a region's beginning: slots, by a number's bits; objects, by name -/
abbrev Masks := Nat → Option (Nat × List Nat)

def firstRegion : Code → Option Nat
  | .region id _ _ => some id
  | .seq a _ => firstRegion a
  | .block _ c | .loop c | .scope c => firstRegion c
  | _ => none

def maskL (m : Nat) : List AV → Nat → List AV
  | [], _ => []
  | x :: l, i => (if m.testBit i then x else .dead) :: maskL m l (i + 1)

/-- an object is dropped: whatever names it is forgotten -/
def St.drop (st : St) (n : Nat) : St := { st.kill n with ob := (st.kill n).ob.del n }
def St.drops : List Nat → St → St
  | [], st => st
  | n :: r, st => St.drops r (st.drop n)
def scrubAt (M : Masks) (key : Nat) (st : St) : St :=
  match M key with
  | none => st
  | some (m, ns) => St.drops ((st.ob.map (·.1)).filter fun n => !ns.contains n) { st with sl := maskL m st.sl 0 }
def scrub (M : Masks) (c : Code) (st : St) : St :=
  match firstRegion c with
  | none => st
  | some id => scrubAt M id st

def iter : Nat → (St → (Ex → St → Option R) → Option R) → St → (Ex → St → Option R) → Option R
  | 0, _, _, _ => none
  | m + 1, body, st, k => body st fun e st' => match e with
    | .normal => iter m body st' k
    | e => k e st'

/-- what a loop is worth, shown by itself -/
abbrev LoopC := (R : Type) → Nat → St → (Ex → St → Option R) → Option R
abbrev Loops := Nat → Option LoopC

/-- what stands behind a statement, shown by itself -/
def joinOf (LP : Loops) (b : Code) : Option LoopC := (firstRegion b).bind fun id => LP (1048576 + id)

def exec (C : Ctx) (n : Nat) (M : Masks) (LP : Loops) : Code → St → (Ex → St → Option R) → Option R
  | .skip, st, k => k .normal st
  | .region id ops draw, st, k => if draw then (if (Region.lexB .any ops && ((ops.toList.all fun o => !allocB o.op) && (M (2000000 + id)).isNone)) = true then runQ C ops ops.toList st (fun st => k .normal st.fade) else if (okG (ops.extract 0 (cutAt ops)) st && tailOk ops (cutAt ops)) = true then runD C (ops.extract 0 (cutAt ops)) st (ops.extract 0 (cutAt ops)).toList [] (fun outs => runOps C n ops (List.range' (cutAt ops) (ops.size - cutAt ops)) (sig (ops.extract 0 (cutAt ops)) outs st (List.range (cutAt ops)).reverse) (fun st => k .normal st.fade)) else none) else runOps C n ops (List.range ops.size) st (fun st => k .normal st.fade)
  | .seq a b, st, k => exec C n M LP a st fun e st' => match e with
    | .normal => match joinOf LP b with
      | some G => G R n (scrub M b st') k
      | none => exec C n M LP b (scrub M b st') k
    | e => k e st'
  | .cond c a b, st, k => match st.ev c with
    | .v _ .bool t => if t = true then exec C n M LP a st k else exec C n M LP b st k
    | _ => none
  | .block id c, st, k => exec C n M LP c st fun e st' => match e with
    | .exit j => if j = id then k .normal st' else k (.exit j) st'
    | e => k e st'
  | .loop c, st, k => match (firstRegion c).bind LP with
    | some G => G R n (scrub M c st) k
    | none => iter n (fun st kk => exec C n M LP c st fun e st' => match e with
      | .normal => kk .normal (scrub M c st')
      | e => kk e st') (scrub M c st) k
  | .exit id, st, k => k (.exit id) (scrubAt M (1000000 + id) st)
  | .ret, st, k => k .ret (scrubAt M 999999 st)
  | _, _, _ => none

/-- results, as they leave -/
def resK (C : Ctx) (st : St) : List ResultVar → (List AV → Option R) → Option R
  | [], k => k []
  | .tmp t :: r, k => resK C st r fun l => k (st.sl.getD t .dead :: l)
  | .cell a T :: r, k => loadK C st T (st.sl.getD a .dead) fun x => resK C st r fun l => k (x :: l)

/-- as plain data, where the function's contract says so -/
def frNames : List (Option Ty) → List AV → List Nat
  | b :: bs, x :: l => (if b.isSome then x.names else []) ++ frNames bs l
  | _, _ => []
def vRes : List (Option Ty) → List AV → (List AV → Option R) → Option R
  | some t :: bs, x :: l, k => plainT t x fun g d => vRes bs l fun l' => k (.v g t d :: l')
  | none :: bs, x :: l, k => vRes bs l fun l' => k (x :: l')
  | _, l, k => k l
def AV.isTup : AV → Bool
  | .tup _ => true
  | _ => false
def resOf : List AV → AV
  | [x] => x
  | l => .tup (AV.ofList l)

def leaveX (lent : Nat) (st : St) (x : AV) (k : AV → Store → Option R) : Option R :=
  let N := reach st.ob 64 (List.range lent ++ x.names) []
  if closedB st.ob N && x.names.all (fun m => N.contains m) && (List.range lent).all (fun i => idxOf N i == i && N.contains i) && (N.drop lent).all (fun n => decide (64 ≤ n)) && x.noPr &&
      N.all (fun n => ((st.ob.get n).map Obj.noPr).getD true) then
    k (x.rn (idxOf N) same) (packS st.ob (idxOf N) same 0 N)
  else none

def leaveK (C : Ctx) (fr : List (Option Ty)) (lent : Nat) (st : St) (rs : List ResultVar) (k : AV → Store → Option R) : Option R :=
  resK C st rs fun l => settle (frNames fr l) st fun st => resK C st rs fun l => vRes fr l fun l =>
    if l.all (fun x => !x.isTup) then leaveX lent st (resOf l) k else none

/-- a bare nil that came as a slice is an own array without memory -/
def nilArgs (C : Ctx) : Nat → List TypeId → St → St
  | _, [], st => st
  | i, T :: r, st => nilArgs C (i + 1) r (match st.sl.getD i .dead, C.TT T with
    | .nils, some (.sl t) => (st.new (nm i 15) (.arr true t [])).set (some i) (.sl (nm i 15))
    | _, _ => st)

def runFn (C : Ctx) (M : Masks) (LP : Loops) (fr : List (Option Ty)) (f : Func) : Callee := fun _ n args ob k =>
  match f.body with
  | some c => if ob.map (·.1) = List.range ob.length then
      exec C n M LP c (nilArgs C 0 f.params.toList { sl := args ++ List.replicate (f.ntmps - args.length) .dead, ob }) fun e st =>
        match e with
        | .exit _ => none
        | _ => leaveK C fr ob.length st f.results.toList k
    else none
  | none => none

end
end Go.Eng

/- The engine, part 4: the data type of a program's type. -/
namespace Go.Eng

def pairs : List Ty → Ty
  | [] => .unit
  | t :: l => .pair t (pairs l)

def tyOf (P : Program) : Nat → TypeId → Option Ty
  | 0, _ => none
  | f + 1, T => match P.underlying T with
    | some .bool => some .bool
    | some (.int k) => some (.int k)
    | some .string => some .str
    | some (.slice e) => (tyOf P f e).map .sl
    | some (.array n e) => (tyOf P f e).map (.arr n)
    | some (.struct fs) => (fs.toList.mapM fun x => tyOf P f x.type).map pairs
    | some (.pointer _) => some (.opq .ptr)
    | some (.func ..) => some (.opq .fn)
    | some (.map ..) => some (.opq .mp)
    | some (.interface _) => some (.opq .ifc)
    | _ => none

def elemBytes (P : Program) (T : TypeId) : Nat :=
  match P.underlying T with
  | some (.slice e) => P.bytesOf e
  | _ => 0

end Go.Eng

/- The engine, part 5: when a machine's state is spoken of by an abstract state; what becomes of that where the world changes. -/
namespace Go.Eng

structure Mu where
  addr : Nat → Option Addr
  cap : Nat → Nat

/-- an activation: the world in which it began, the blocks lent to it, the old blocks in which plain data may lie -/
structure Env where
  w0 : World
  X : Nat → Nat → Prop
  A : Nat → Prop
  /-- boxes that were lent: where they lie, of what type -/
  B : Nat → Option (Addr × Nat × Ty)

/-- a block that was lent, under some name -/
def Env.lentTo (E : Env) (b : Nat) : Prop := ∃ n, E.X n b

def Priv (ob : Store) (μ : Mu) (b : Nat) : Prop := ∃ n o x, ob.get n = some o ∧ μ.addr n = some x ∧ x.block = b
def Sb (E : Env) (ob : Store) (μ : Mu) (g : Bool) (b : Nat) : Prop :=
  ¬ Priv ob μ b ∧ ¬ E.lentTo b ∧ (b < E.w0.heap.size → g = false ∧ E.A b)

theorem Sb.weak {E : Env} {ob : Store} {μ : Mu} {g : Bool} {b : Nat} (h : Sb E ob μ g b) : Sb E ob μ false b :=
  ⟨h.1, h.2.1, fun hb => ⟨rfl, (h.2.2 hb).2⟩⟩

/-- the cells cs are the value x of type T -/
def CR (E : Env) (ob : Store) (μ : Mu) (w : World) : AV → Ty → List Value → Prop
  | .v g t d, T, cs => t = T ∧ R w (Sb E ob μ g) t d cs
  | .sl n, T, cs => ∃ g t l, ob.get n = some (.arr g t l) ∧ T = .sl t ∧ cs = [.slice (μ.addr n) l.length (μ.cap n)]
  | .sub n off len, T, cs => ∃ g t l o cap, ob.get n = some (.arr g t l) ∧ T = .sl t ∧ off + len ≤ l.length ∧ len ≤ cap ∧
      (μ.addr n = none → cap = 0) ∧ (0 < len → ∀ x, μ.addr n = some x → o = x.off + off * t.size) ∧
      cs = [.slice ((μ.addr n).map fun x => ⟨x.block, o, none⟩) len cap]
  | .bs n p, T, cs => ∃ T' x o m t y, ob.get n = some (.box T' x) ∧ pathOff T' p = some (o, .arr m t) ∧ μ.addr n = some y ∧ T = .sl t ∧
      cs = [.slice (some ⟨y.block, y.off + o, none⟩) m m]
  | .pe n i p, T, cs => ∃ g t l o t' x, ob.get n = some (.arr g t l) ∧ i < l.length ∧ pathOff t p = some (o, t') ∧ μ.addr n = some x ∧ T = .opq .ptr ∧
      cs = [.pointer (some ⟨x.block, x.off + i * t.size + o, none⟩)]
  | .pb n p, T, cs => ∃ T' a o t' x, ob.get n = some (.box T' a) ∧ pathOff T' p = some (o, t') ∧ μ.addr n = some x ∧ T = .opq .ptr ∧
      cs = [.pointer (some ⟨x.block, x.off + o, none⟩)]
  | .pr g t d, T, cs => T = .opq .ptr ∧ ∃ x es, cs = [.pointer (some x)] ∧ x.spot = none ∧ Sb E ob μ g x.block ∧ x.block < w.heap.size ∧
      R w (Sb E ob μ g) t d es ∧ CellsAt w x.block x.off es
  | .nl k, T, cs => T = .opq k ∧ cs = [k.nil]
  | .nils, T, cs => (∃ t, T = .sl t) ∧ cs = [.slice none 0 0]
  | .clo f ns, T, cs => T = .opq .fn ∧ cs = [.func (.func f) #[] (ns.map fun n => Value.pointer (μ.addr n)).toArray] ∧
      ∀ n ∈ ns, ∃ T' a x, ob.get n = some (.box T' a) ∧ μ.addr n = some x ∧ x.spot = none
  | .nil, T, cs => T = .unit ∧ cs = []
  | .cons h t, T, cs => ∃ a b, T = .pair a b ∧ CR E ob μ w h a (cs.take a.size) ∧ CR E ob μ w t b (cs.drop a.size)
  | .ag l, T, cs => (∃ a b, T = .pair a b) ∧ CR E ob μ w l T cs
  | .tup _, _, _ => False
  | .dead, T, cs => cs.length = T.size

theorem CR.len {E : Env} {ob : Store} {μ : Mu} {w : World} : {x : AV} → {T : Ty} → {cs : List Value} → CR E ob μ w x T cs → cs.length = T.size
  | .v .., _, _, h => by simp only [CR] at h; obtain ⟨rfl, h⟩ := h; exact h.len
  | .sl _, _, _, h => by simp only [CR] at h; obtain ⟨g, t, l, _, rfl, rfl⟩ := h; rfl
  | .sub .., _, _, h => by simp only [CR] at h; obtain ⟨g, t, l, o, c, _, rfl, _, _, _, _, rfl⟩ := h; rfl
  | .bs .., _, _, h => by simp only [CR] at h; obtain ⟨_, _, _, _, _, _, _, _, _, rfl, rfl⟩ := h; rfl
  | .pe .., _, _, h => by simp only [CR] at h; obtain ⟨_, _, _, _, _, _, _, _, _, _, rfl, rfl⟩ := h; rfl
  | .pb .., _, _, h => by simp only [CR] at h; obtain ⟨_, _, _, _, _, _, _, _, rfl, rfl⟩ := h; rfl
  | .pr .., _, _, h => by simp only [CR] at h; obtain ⟨rfl, x, es, rfl, _⟩ := h; rfl
  | .nl _, _, _, h => by simp only [CR] at h; obtain ⟨rfl, rfl⟩ := h; rfl
  | .nils, _, _, h => by simp only [CR] at h; obtain ⟨⟨t, rfl⟩, rfl⟩ := h; rfl
  | .clo .., _, _, h => by simp only [CR] at h; obtain ⟨rfl, rfl, _⟩ := h; rfl
  | .nil, _, _, h => by simp only [CR] at h; obtain ⟨rfl, rfl⟩ := h; rfl
  | .cons h t, _, cs, hh => by
    simp only [CR] at hh
    obtain ⟨a, b, rfl, h1, h2⟩ := hh
    have := h1.len
    have := h2.len
    simp only [List.length_take, List.length_drop, Ty.size] at *
    omega
  | .ag _, _, _, h => by simp only [CR] at h; exact h.2.len
  | .tup _, _, _, h => by simp only [CR] at h
  | .dead, _, _, h => by simpa only [CR] using h

def Own (w : World) (b off k : Nat) : Prop :=
  ∃ c e fz, w.heap[b]? = some (.cells c e fz) ∧ off + k ≤ c.size ∧ ∀ j, j < k → w.frozen? ⟨b, off + j, none⟩ = false

def ObjR (E : Env) (ob : Store) (μ : Mu) (w : World) (n : Nat) : Obj → Prop
  | .arr g t l => l.length ≤ μ.cap n ∧ l.length ≤ maxI ∧ (μ.addr n = none → μ.cap n = 0) ∧
      ∀ x, μ.addr n = some x → x.spot = none ∧ Own w x.block x.off (μ.cap n * t.size) ∧
        ∀ i (h : i < l.length), ∃ es, R w (Sb E ob μ g) t l[i] es ∧ CellsAt w x.block (x.off + i * t.size) es
  | .box T a => ∃ x cs, μ.addr n = some x ∧ x.spot = none ∧ CR E ob μ w a T cs ∧ CellsAt w x.block x.off cs ∧ Own w x.block x.off T.size

/-- what lies outside memory is as it was -/
def Io (w0 w : World) : Prop := w.os = w0.os ∧ w.output = w0.output ∧ w.tape = w0.tape
theorem Io.refl (w : World) : Io w w := ⟨rfl, rfl, rfl⟩
theorem Io.trans {a b c : World} (h : Io a b) (k : Io b c) : Io a c := ⟨k.1.trans h.1, k.2.1.trans h.2.1, k.2.2.trans h.2.2⟩

/-- the objects are as told -/
structure Rel (E : Env) (ob : Store) (μ : Mu) (w : World) : Prop where
  lent : ∀ n b, E.X n b → b < E.w0.heap.size ∧ n < 64
  size : E.w0.heap.size ≤ w.heap.size
  io : Io E.w0 w
  frame : ∀ b, b < E.w0.heap.size → ¬ E.lentTo b → w.heap[b]? = E.w0.heap[b]?
  own : ∀ n o x, ob.get n = some o → μ.addr n = some x → x.block < w.heap.size ∧ (x.block < E.w0.heap.size → E.X n x.block)
  inj : ∀ n m o o' x y, ob.get n = some o → ob.get m = some o' → μ.addr n = some x → μ.addr m = some y → x.block = y.block → n = m
  objs : ∀ n o, ob.get n = some o → ObjR E ob μ w n o
  keep : ∀ n x c T, E.B n = some (x, c, T) → n < 64 ∧ ∀ o, ob.get n = some o → (∃ a, o = .box T a) ∧ μ.addr n = some x ∧ μ.cap n = c

/-- the value of a slot, no tuple -/
def SR (E : Env) (ob : Store) (μ : Mu) (w : World) (x : AV) (v : Value) : Prop :=
  ∃ T : Ty, CR E ob μ w x T v.cells.toList ∧ (T.isAgg = true → ∃ c, v = .agg c) ∧ (T.isAgg = false → v.cells = #[v])
def SRd (E : Env) (ob : Store) (μ : Mu) (w : World) (x : AV) (v : Value) : Prop := x = .dead ∨ SR E ob μ w x v
def TR (E : Env) (ob : Store) (μ : Mu) (w : World) : AV → List Value → Prop
  | .nil, [] => True
  | .cons h t, v :: vs => SRd E ob μ w h v ∧ TR E ob μ w t vs
  | _, _ => False
def VR (E : Env) (ob : Store) (μ : Mu) (w : World) : AV → Value → Prop
  | .dead, _ => True
  | .tup l, v => ∃ vs, v = .tuple vs ∧ TR E ob μ w l vs.toList
  | x, v => SR E ob μ w x v

def SlotsR (E : Env) (ob : Store) (μ : Mu) (w : World) (sl : List AV) (tmps : Array Value) : Prop :=
  sl.length = tmps.size ∧ ∀ i (h : i < sl.length), VR E ob μ w sl[i] (tmps.getD i undef)

/-! ### what stays -/

/-- the same kind of object, of the same length -/
def Like : Obj → Obj → Prop
  | .arr _ t l, .arr _ t' l' => t = t' ∧ l.length = l'.length
  | .box T _, .box T' _ => T = T'
  | _, _ => False

theorem Like.refl (o : Obj) : Like o o := by cases o <;> simp [Like]

/-- names stay: each of them speaks of the same place and the same kind of object as before -/
def Keeps (ob : Store) (μ : Mu) (ob' : Store) (μ' : Mu) (n : Nat) : Prop :=
  ∀ o, ob.get n = some o → ∃ o', ob'.get n = some o' ∧ Like o o' ∧ μ'.addr n = μ.addr n ∧ μ'.cap n = μ.cap n

structure Moves (E : Env) (ob : Store) (μ : Mu) (w : World) (E' : Env) (ob' : Store) (μ' : Mu) (w' : World) : Prop where
  size : w.heap.size ≤ w'.heap.size
  sb : ∀ g b, Sb E ob μ g b → b < w.heap.size → Sb E' ob' μ' g b
  agree : ∀ b, Sb E ob μ false b → b < w.heap.size → w'.heap[b]? = w.heap[b]?

theorem Moves.r {E E' : Env} {ob ob' : Store} {μ μ' : Mu} {w w' : World} (m : Moves E ob μ w E' ob' μ' w') {g : Bool} {t : Ty} {d : t.D} {cs : List Value}
    (h : R w (Sb E ob μ g) t d cs) : R w' (Sb E' ob' μ' g) t d cs :=
  h.stay (fun b hb hz => m.agree b hb.weak hz) (fun b hb hz => m.sb g b hb hz) m.size

theorem CR.move {E E' : Env} {ob ob' : Store} {μ μ' : Mu} {w w' : World} (m : Moves E ob μ w E' ob' μ' w') :
    {x : AV} → {T : Ty} → {cs : List Value} → (∀ n ∈ x.names, Keeps ob μ ob' μ' n) → CR E ob μ w x T cs → CR E' ob' μ' w' x T cs
  | .v .., _, _, _, h => by simp only [CR] at h ⊢; exact ⟨h.1, m.r h.2⟩
  | .sl n, _, _, hk, h => by
    simp only [CR] at h ⊢
    obtain ⟨g, t, l, ho, hT, rfl⟩ := h
    obtain ⟨o', ho', hl, ha, hc⟩ := hk n (by simp [AV.names]) _ ho
    cases o' with
    | box => exact hl.elim
    | arr g' t' l' =>
      obtain ⟨rfl, hlen⟩ := hl
      exact ⟨g', t, l', ho', hT, by rw [ha, hc, hlen]⟩
  | .sub n off len, _, _, hk, h => by
    simp only [CR] at h ⊢
    obtain ⟨g, t, l, o, c, ho, hT, h1, h2, h3, h4, rfl⟩ := h
    obtain ⟨o', ho', hl, ha, hc⟩ := hk n (by simp [AV.names]) _ ho
    cases o' with
    | box => exact hl.elim
    | arr g' t' l' =>
      obtain ⟨rfl, hlen⟩ := hl
      exact ⟨g', t, l', o, c, ho', hT, by omega, h2, by rw [ha]; exact h3, by rw [ha]; exact h4, by rw [ha]⟩
  | .bs n p, _, _, hk, h => by
    simp only [CR] at h ⊢
    obtain ⟨T', x, o, k, t, y, ho, hp, hy, hT, rfl⟩ := h
    obtain ⟨o', ho', hl, ha, hc⟩ := hk n (by simp [AV.names]) _ ho
    cases o' with
    | arr => exact hl.elim
    | box T'' x' => obtain rfl := hl; exact ⟨T', x', o, k, t, y, ho', hp, by rw [ha]; exact hy, hT, rfl⟩
  | .pe n i p, _, _, hk, h => by
    simp only [CR] at h ⊢
    obtain ⟨g, t, l, o, t', x, ho, hi, hp, hx, rfl, rfl⟩ := h
    obtain ⟨o', ho', hl, ha, hc⟩ := hk n (by simp [AV.names]) _ ho
    cases o' with
    | box => exact hl.elim
    | arr g' t'' l' =>
      obtain ⟨rfl, hlen⟩ := hl
      exact ⟨g', t, l', o, t', x, ho', by omega, hp, by rw [ha]; exact hx, rfl, rfl⟩
  | .pb n p, _, _, hk, h => by
    simp only [CR] at h ⊢
    obtain ⟨T', a, o, t', x, ho, hp, hx, rfl, rfl⟩ := h
    obtain ⟨o', ho', hl, ha, hc⟩ := hk n (by simp [AV.names]) _ ho
    cases o' with
    | arr => exact hl.elim
    | box T'' x' => obtain rfl := hl; exact ⟨T', x', o, t', x, ho', hp, by rw [ha]; exact hx, rfl, rfl⟩
  | .pr g t d, _, _, _, h => by
    simp only [CR] at h ⊢
    obtain ⟨rfl, x, es, rfl, h1, h2, h3, h4, h5⟩ := h
    exact ⟨rfl, x, es, rfl, h1, m.sb _ _ h2 h3, Nat.lt_of_lt_of_le h3 m.size, m.r h4, h5.of (m.agree _ h2.weak h3)⟩
  | .nl _, _, _, _, h => by simpa only [CR] using h
  | .nils, _, _, _, h => by simpa only [CR] using h
  | .clo f ns, _, _, hk, h => by
    simp only [CR] at h ⊢
    obtain ⟨rfl, rfl, hn⟩ := h
    have key : ∀ n ∈ ns, μ'.addr n = μ.addr n ∧ ∃ T' a x, ob'.get n = some (.box T' a) ∧ μ'.addr n = some x ∧ x.spot = none := by
      intro n hmem
      obtain ⟨T', a, x, ho, hx, hs⟩ := hn n hmem
      obtain ⟨o', ho', hl, ha, hc⟩ := hk n (by simpa [AV.names] using hmem) _ ho
      cases o' with
      | arr => exact hl.elim
      | box T'' x' => exact ⟨ha, T'', x', x, ho', by rw [ha]; exact hx, hs⟩
    refine ⟨rfl, ?_, fun n hmem => (key n hmem).2⟩
    congr 3
    exact List.map_congr_left fun n hmem => by rw [(key n hmem).1]
  | .nil, _, _, _, h => by simpa only [CR] using h
  | .cons h t, _, _, hk, hh => by
    simp only [CR] at hh ⊢
    obtain ⟨a, b, rfl, h1, h2⟩ := hh
    exact ⟨a, b, rfl, CR.move m (fun n hn => hk n (by simp [AV.names, hn])) h1, CR.move m (fun n hn => hk n (by simp [AV.names, hn])) h2⟩
  | .ag l, _, _, hk, h => by
    simp only [CR] at h ⊢
    exact ⟨h.1, CR.move m (fun n hn => hk n (by simpa [AV.names] using hn)) h.2⟩
  | .tup _, _, _, _, h => by simp only [CR] at h
  | .dead, _, _, _, h => by simpa only [CR] using h

theorem SR.move {E E' : Env} {ob ob' : Store} {μ μ' : Mu} {w w' : World} (m : Moves E ob μ w E' ob' μ' w') {x : AV} {v : Value}
    (hk : ∀ n ∈ x.names, Keeps ob μ ob' μ' n) (h : SR E ob μ w x v) : SR E' ob' μ' w' x v := by
  obtain ⟨T, h1, h2⟩ := h
  exact ⟨T, h1.move m hk, h2⟩
theorem SRd.move {E E' : Env} {ob ob' : Store} {μ μ' : Mu} {w w' : World} (m : Moves E ob μ w E' ob' μ' w') {x : AV} {v : Value}
    (hk : ∀ n ∈ x.names, Keeps ob μ ob' μ' n) (h : SRd E ob μ w x v) : SRd E' ob' μ' w' x v := h.imp id (·.move m hk)
theorem TR.move {E E' : Env} {ob ob' : Store} {μ μ' : Mu} {w w' : World} (m : Moves E ob μ w E' ob' μ' w') :
    {l : AV} → {vs : List Value} → (∀ n ∈ l.names, Keeps ob μ ob' μ' n) → TR E ob μ w l vs → TR E' ob' μ' w' l vs
  | .nil, [], _, h => h
  | .cons h t, v :: vs, hk, hh => by
    simp only [TR] at hh ⊢
    exact ⟨hh.1.move m (fun n hn => hk n (by simp [AV.names, hn])), TR.move m (fun n hn => hk n (by simp [AV.names, hn])) hh.2⟩
  | .nil, _ :: _, _, h => by simp [TR] at h
  | .cons .., [], _, h => by simp [TR] at h
  | .v .., _, _, h | .sl .., _, _, h | .sub .., _, _, h | .bs .., _, _, h | .pe .., _, _, h | .pb .., _, _, h | .pr .., _, _, h | .nl .., _, _, h
  | .nils, _, _, h | .clo .., _, _, h | .ag .., _, _, h | .tup .., _, _, h | .dead, _, _, h => by simp [TR] at h
theorem VR.move {E E' : Env} {ob ob' : Store} {μ μ' : Mu} {w w' : World} (m : Moves E ob μ w E' ob' μ' w') {x : AV} {v : Value}
    (hk : ∀ n ∈ x.names, Keeps ob μ ob' μ' n) (h : VR E ob μ w x v) : VR E' ob' μ' w' x v := by
  cases x with
  | dead => trivial
  | tup l => obtain ⟨vs, h1, h2⟩ := h; exact ⟨vs, h1, h2.move m (by simpa [AV.names] using hk)⟩
  | _ => exact SR.move m hk h

end Go.Eng

/- The engine, part 6: one object changes; names are forgotten; objects are dropped. -/
namespace Go.Eng

theorem Store.get_put (s : Store) (n m : Nat) (o : Obj) : (s.put n o).get m = if m = n then some o else s.get m := by
  induction s with
  | nil => simp only [Store.put, Store.get]
  | cons p s ih =>
    obtain ⟨k, o'⟩ := p
    simp only [Store.put]
    by_cases h1 : n < k
    · rw [if_pos h1]; simp only [Store.get]
    · rw [if_neg h1]
      by_cases h2 : n = k
      · subst h2; rw [if_pos rfl]; simp only [Store.get]; split <;> rfl
      · rw [if_neg h2]; simp only [Store.get, ih]
        by_cases h3 : m = k
        · subst h3; rw [if_pos rfl, if_neg (fun h => h2 h.symm), if_pos rfl]
        · rw [if_neg h3]; simp [h3]
theorem Store.get_put_self (s : Store) (n : Nat) (o : Obj) : (s.put n o).get n = some o := by rw [Store.get_put, if_pos rfl]
theorem Store.get_put_ne (s : Store) {n m : Nat} (o : Obj) (h : m ≠ n) : (s.put n o).get m = s.get m := by rw [Store.get_put, if_neg h]
theorem Store.get_map (s : Store) (f : Obj → Obj) (m : Nat) : Store.get (s.map fun (k, o) => (k, f o)) m = (s.get m).map f := by
  induction s with
  | nil => rfl
  | cons p s ih => obtain ⟨k, o⟩ := p; simp only [List.map_cons, Store.get, ih]; split <;> rfl
theorem Store.get_kill (s : Store) (n m : Nat) : (s.kill n).get m = (s.get m).map (Obj.kill n) := Store.get_map s _ m
theorem Store.get_del (s : Store) (n m : Nat) : (s.del n).get m = if m = n then none else s.get m := by
  induction s with
  | nil => simp [Store.del, Store.get]
  | cons p s ih =>
    obtain ⟨k, o⟩ := p
    simp only [Store.del]
    by_cases h : n = k
    · subst h; rw [if_pos rfl, ih]; simp only [Store.get]; split <;> rfl
    · rw [if_neg h]; simp only [Store.get, ih]
      by_cases h2 : m = k
      · subst h2; rw [if_pos rfl, if_neg (fun e => h e.symm), if_pos rfl]
      · rw [if_neg h2]; rw [if_neg h2]
theorem Store.get_filter (s : Store) (p : Nat → Bool) (m : Nat) : Store.get (s.filter fun (k, _) => p k) m = if p m then s.get m else none := by
  induction s with
  | nil => simp [Store.get]
  | cons q s ih =>
    obtain ⟨k, o⟩ := q
    simp only [List.filter_cons, Store.get]
    by_cases h : m = k
    · subst h; by_cases hp : p m <;> simp [hp, Store.get, ih]
    · by_cases hp : p k <;> simp [hp, Store.get, h, ih]

/-! ### one object changes -/

def PrivN (ob : Store) (μ : Mu) (n b : Nat) : Prop := ∃ o x, ob.get n = some o ∧ μ.addr n = some x ∧ x.block = b
theorem PrivN.priv {ob : Store} {μ : Mu} {n b : Nat} (h : PrivN ob μ n b) : Priv ob μ b := let ⟨o, x, h⟩ := h; ⟨n, o, x, h⟩

def Mu.set (μ : Mu) (n : Nat) (a : Option Addr) (c : Nat) : Mu :=
  { addr := fun m => if m = n then a else μ.addr m, cap := fun m => if m = n then c else μ.cap m }
theorem Mu.set_addr (μ : Mu) (n : Nat) (a : Option Addr) (c : Nat) : (μ.set n a c).addr n = a := by simp [Mu.set]
theorem Mu.set_cap (μ : Mu) (n : Nat) (a : Option Addr) (c : Nat) : (μ.set n a c).cap n = c := by simp [Mu.set]
theorem Mu.set_addr_ne (μ : Mu) {n m : Nat} (a : Option Addr) (c : Nat) (h : m ≠ n) : (μ.set n a c).addr m = μ.addr m := by simp [Mu.set, h]
theorem Mu.set_cap_ne (μ : Mu) {n m : Nat} (a : Option Addr) (c : Nat) (h : m ≠ n) : (μ.set n a c).cap m = μ.cap m := by simp [Mu.set, h]
theorem Mu.set_same (μ : Mu) (n : Nat) : μ.set n (μ.addr n) (μ.cap n) = μ := by
  cases μ; simp only [Mu.set, Mu.mk.injEq]; constructor <;> (funext m; split <;> simp_all)

section
variable {E : Env} {ob : Store} {μ : Mu} {w w' : World}

theorem Own.of {b o k : Nat} (h : w'.heap[b]? = w.heap[b]?) (ho : Own w b o k) : Own w' b o k := by
  obtain ⟨c, e, fz, h1, h2, h3⟩ := ho
  exact ⟨c, e, fz, by rw [h, h1], h2, fun j hj => by have := h3 j hj; simp only [World.frozen?] at this ⊢; rw [h]; exact this⟩

theorem ObjR.move {E' : Env} {ob' : Store} {μ' : Mu} (m : Moves E ob μ w E' ob' μ' w') {n n' : Nat} {o : Obj} (hk : ∀ k ∈ o.names, Keeps ob μ ob' μ' k)
    (hb : ∀ x, μ.addr n = some x → w'.heap[x.block]? = w.heap[x.block]?) (ha : μ'.addr n' = μ.addr n) (hc : μ'.cap n' = μ.cap n)
    (h : ObjR E ob μ w n o) : ObjR E' ob' μ' w' n' o := by
  cases o with
  | arr g t l =>
    simp only [ObjR] at h ⊢
    obtain ⟨h1, h2, h3, h4⟩ := h
    refine ⟨by rw [hc]; exact h1, h2, by rw [ha, hc]; exact h3, fun x hx => ?_⟩
    rw [ha] at hx
    obtain ⟨h5, h6, h7⟩ := h4 x hx
    refine ⟨h5, by rw [hc]; exact h6.of (hb x hx), fun i hi => ?_⟩
    obtain ⟨es, he, hce⟩ := h7 i hi
    exact ⟨es, m.r he, hce.of (hb x hx)⟩
  | box T a =>
    simp only [ObjR] at h ⊢
    obtain ⟨x, cs, h1, h2, h3, h4, h5⟩ := h
    exact ⟨x, cs, by rw [ha]; exact h1, h2, h3.move m hk, h4.of (hb x h1), h5.of (hb x h1)⟩

/-- what must hold of the world behind a change at object n -/
structure Chg (ob : Store) (μ : Mu) (w : World) (n : Nat) (a' : Option Addr) (w' : World) : Prop where
  size : w.heap.size ≤ w'.heap.size
  io : Io w w'
  agree : ∀ b, b < w.heap.size → ¬ PrivN ob μ n b → w'.heap[b]? = w.heap[b]?
  addr : ∀ x, a' = some x → x.block < w'.heap.size ∧ (x.block < w.heap.size → PrivN ob μ n x.block)

theorem Chg.moves {n : Nat} {a' : Option Addr} {c' : Nat} {o' : Obj} (h : Chg ob μ w n a' w') :
    Moves E ob μ w E (ob.put n o') (μ.set n a' c') w' where
  size := h.size
  sb := fun g b hs hb => ⟨fun ⟨m, o, x, h1, h2, h3⟩ => by
    by_cases hm : m = n
    · subst hm
      rw [Mu.set_addr] at h2
      exact hs.1 ((h3 ▸ (h.addr x h2).2) hb).priv
    · rw [Store.get_put_ne _ _ hm] at h1
      rw [Mu.set_addr_ne _ _ _ hm] at h2
      exact hs.1 ⟨m, o, x, h1, h2, h3⟩, hs.2.1, hs.2.2⟩
  agree := fun b hs hb => h.agree b hb fun hp => hs.1 hp.priv

/-- the name n speaks of the same place and kind as before -/
def Same (ob : Store) (μ : Mu) (n : Nat) (o' : Obj) (a' : Option Addr) (c' : Nat) : Prop :=
  (∀ o, ob.get n = some o → Like o o' ∧ a' = μ.addr n ∧ c' = μ.cap n)

theorem Keeps.ne {n m : Nat} {a' : Option Addr} {c' : Nat} {o' : Obj} (h : m ≠ n) : Keeps ob μ (ob.put n o') (μ.set n a' c') m := by
  intro o ho
  exact ⟨o, by rw [Store.get_put_ne _ _ h, ho], Like.refl o, Mu.set_addr_ne _ _ _ h, Mu.set_cap_ne _ _ _ h⟩
theorem Keeps.same {n : Nat} {a' : Option Addr} {c' : Nat} {o' : Obj} (h : Same ob μ n o' a' c') : Keeps ob μ (ob.put n o') (μ.set n a' c') n := by
  intro o ho
  obtain ⟨h1, h2, h3⟩ := h o ho
  exact ⟨o', Store.get_put_self _ _ _, h1, by rw [Mu.set_addr, h2], by rw [Mu.set_cap, h3]⟩
theorem Keeps.of {n m : Nat} {a' : Option Addr} {c' : Nat} {o' : Obj} (h : m = n → Same ob μ n o' a' c') : Keeps ob μ (ob.put n o') (μ.set n a' c') m := by
  by_cases hm : m = n
  · subst hm; exact Keeps.same (h rfl)
  · exact Keeps.ne hm

/-- a box that was lent stays where it is -/
def Ko (ob : Store) (μ : Mu) (n : Nat) (o' : Obj) (a' : Option Addr) (c' : Nat) : Prop :=
  64 ≤ n ∨ (∃ g t l, ob.get n = some (.arr g t l)) ∨ (∃ o, ob.get n = some o ∧ Same ob μ n o' a' c')

theorem Rel.change (hR : Rel E ob μ w) {n : Nat} {a' : Option Addr} {c' : Nat} {o' : Obj} (h : Chg ob μ w n a' w')
    (hnm : (∃ m o, ob.get m = some o ∧ m ≠ n ∧ n ∈ o.names) → Same ob μ n o' a' c')
    (hobj : ObjR E (ob.put n o') (μ.set n a' c') w' n o') (hko : Ko ob μ n o' a' c') : Rel E (ob.put n o') (μ.set n a' c') w' where
  lent := hR.lent
  keep := fun m x c T hB => by
    obtain ⟨k1, k2⟩ := hR.keep m x c T hB
    refine ⟨k1, fun o ho => ?_⟩
    by_cases hm : m = n
    · subst hm
      rw [Store.get_put_self] at ho
      obtain rfl := Option.some.inj ho
      rw [Mu.set_addr, Mu.set_cap]
      rcases hko with h64 | ⟨g, t, l, h1⟩ | ⟨o1, h1, h2⟩
      · omega
      · obtain ⟨⟨a, h3⟩, _⟩ := k2 _ h1
        cases h3
      · obtain ⟨⟨a, rfl⟩, h4, h5⟩ := k2 _ h1
        obtain ⟨h6, h7, h8⟩ := h2 _ h1
        cases o' with
        | arr => exact h6.elim
        | box T' a' => obtain rfl : T = T' := h6; exact ⟨⟨_, rfl⟩, h7.trans h4, h8.trans h5⟩
    · rw [Store.get_put_ne _ _ hm] at ho
      rw [Mu.set_addr_ne _ _ _ hm, Mu.set_cap_ne _ _ _ hm]
      exact k2 o ho
  size := Nat.le_trans hR.size h.size
  io := hR.io.trans h.io
  frame := fun b hb hx => by
    rw [h.agree b (Nat.lt_of_lt_of_le hb hR.size) (fun ⟨o, x, h1, h2, h3⟩ => hx ⟨n, h3 ▸ ((hR.own n o x h1 h2).2 (h3 ▸ hb))⟩)]
    exact hR.frame b hb hx
  own := fun m o x h1 h2 => by
    by_cases hm : m = n
    · subst hm
      rw [Mu.set_addr] at h2
      refine ⟨(h.addr x h2).1, fun hb => ?_⟩
      obtain ⟨o1, y, h3, h4, h5⟩ := (h.addr x h2).2 (Nat.lt_of_lt_of_le hb hR.size)
      have := (hR.own m o1 y h3 h4).2 (by rw [h5]; exact hb)
      rwa [h5] at this
    · rw [Store.get_put_ne _ _ hm] at h1
      rw [Mu.set_addr_ne _ _ _ hm] at h2
      have := hR.own m o x h1 h2
      exact ⟨Nat.lt_of_lt_of_le this.1 h.size, this.2⟩
  inj := fun m k o1 o2 x y h1 h2 h3 h4 hb => by
    by_cases hm : m = n
    · by_cases hk : k = n
      · rw [hm, hk]
      · subst hm
        rw [Store.get_put_ne _ _ hk] at h2
        rw [Mu.set_addr] at h3
        rw [Mu.set_addr_ne _ _ _ hk] at h4
        obtain ⟨o3, z, h5, h6, h7⟩ := (h.addr x h3).2 (hb ▸ (hR.own k o2 y h2 h4).1)
        exact hR.inj m k o3 o2 z y h5 h2 h6 h4 (h7.trans hb)
    · rw [Store.get_put_ne _ _ hm] at h1
      rw [Mu.set_addr_ne _ _ _ hm] at h3
      by_cases hk : k = n
      · subst hk
        rw [Mu.set_addr] at h4
        obtain ⟨o3, z, h5, h6, h7⟩ := (h.addr y h4).2 (hb ▸ (hR.own m o1 x h1 h3).1)
        exact hR.inj m k o1 o3 x z h1 h5 h3 h6 (hb.trans h7.symm)
      · rw [Store.get_put_ne _ _ hk] at h2
        rw [Mu.set_addr_ne _ _ _ hk] at h4
        exact hR.inj m k o1 o2 x y h1 h2 h3 h4 hb
  objs := fun m o ho => by
    by_cases hm : m = n
    · subst hm
      rw [Store.get_put_self] at ho
      obtain rfl := Option.some.inj ho
      exact hobj
    · rw [Store.get_put_ne _ _ hm] at ho
      refine (hR.objs m o ho).move h.moves (fun k hk => Keeps.of fun e => hnm ⟨m, o, ho, hm, e ▸ hk⟩) (fun x hx => ?_)
        (Mu.set_addr_ne _ _ _ hm) (Mu.set_cap_ne _ _ _ hm)
      exact h.agree _ (hR.own m o x ho hx).1 fun ⟨o1, y, h1, h2, h3⟩ => hm (hR.inj m n o o1 x y ho h1 hx h2 h3.symm)

/-! ### names are forgotten -/

theorem AV.kill_names (n : Nat) : (x : AV) → ∀ m ∈ (x.kill n).names, m ∈ x.names ∧ m ≠ n
  | .sl k | .sub k _ _ | .bs k _ | .pe k _ _ | .pb k _ => by
    intro m; simp only [AV.kill]; split <;> simp_all [AV.names]
  | .clo _ cs => by
    intro m; simp only [AV.kill]; split
    · simp [AV.names]
    · rename_i h; simp only [AV.names]; exact fun hm => ⟨hm, fun e => h (e ▸ hm)⟩
  | .cons h t => by
    intro m; simp only [AV.kill, AV.names, List.mem_append]
    rintro (h1 | h1)
    · exact ⟨.inl (AV.kill_names n h m h1).1, (AV.kill_names n h m h1).2⟩
    · exact ⟨.inr (AV.kill_names n t m h1).1, (AV.kill_names n t m h1).2⟩
  | .ag l => by intro m; simp only [AV.kill, AV.names]; exact AV.kill_names n l m
  | .tup l => by intro m; simp only [AV.kill, AV.names]; exact AV.kill_names n l m
  | .v .. | .pr .. | .nl _ | .nils | .nil | .dead => by intro m; simp [AV.kill, AV.names]

theorem CR.kill (n : Nat) : {x : AV} → {T : Ty} → {cs : List Value} → CR E ob μ w x T cs → CR E ob μ w (x.kill n) T cs
  | .sl k, _, _, h | .sub k _ _, _, _, h | .bs k _, _, _, h | .pe k _ _, _, _, h | .pb k _, _, _, h => by
    simp only [AV.kill]; split
    · have := h.len; simpa only [CR] using this
    · exact h
  | .clo _ cs, _, _, h => by
    simp only [AV.kill]; split
    · have := h.len; simpa only [CR] using this
    · exact h
  | .cons h t, _, _, hh => by
    simp only [AV.kill, CR] at hh ⊢
    obtain ⟨a, b, rfl, h1, h2⟩ := hh
    exact ⟨a, b, rfl, h1.kill n, h2.kill n⟩
  | .ag l, _, _, h => by simp only [AV.kill, CR] at h ⊢; exact ⟨h.1, h.2.kill n⟩
  | .tup _, _, _, h => by simp only [CR] at h
  | .v .., _, _, h | .pr .., _, _, h | .nl _, _, _, h | .nils, _, _, h | .nil, _, _, h | .dead, _, _, h => h

theorem SR.kill (n : Nat) {x : AV} {v : Value} (h : SR E ob μ w x v) : SR E ob μ w (x.kill n) v := let ⟨T, h1, h2⟩ := h; ⟨T, h1.kill n, h2⟩
theorem SRd.kill (n : Nat) {x : AV} {v : Value} (h : SRd E ob μ w x v) : SRd E ob μ w (x.kill n) v := by
  rcases h with rfl | h
  · exact .inl rfl
  · exact .inr (h.kill n)
theorem TR.kill (n : Nat) : {l : AV} → {vs : List Value} → TR E ob μ w l vs → TR E ob μ w (l.kill n) vs
  | .nil, [], h => h
  | .cons h t, v :: vs, hh => by simp only [AV.kill, TR] at hh ⊢; exact ⟨hh.1.kill n, hh.2.kill n⟩
  | .nil, _ :: _, h => by simp [TR] at h
  | .cons .., [], h => by simp [TR] at h
  | .v .., _, h | .sl .., _, h | .sub .., _, h | .bs .., _, h | .pe .., _, h | .pb .., _, h | .pr .., _, h | .nl .., _, h
  | .nils, _, h | .clo .., _, h | .ag .., _, h | .tup .., _, h | .dead, _, h => by simp [TR] at h
theorem VR.kill (n : Nat) {x : AV} {v : Value} (h : VR E ob μ w x v) : VR E ob μ w (x.kill n) v := by
  cases x with
  | dead => trivial
  | tup l => obtain ⟨vs, h1, h2⟩ := h; exact ⟨vs, h1, h2.kill n⟩
  | sl k | sub k _ _ | bs k _ | pe k _ _ | pb k _ | clo k _ =>
    have := SR.kill (E := E) (ob := ob) (μ := μ) (w := w) n h
    simp only [AV.kill] at this ⊢
    split
    · trivial
    · rw [if_neg (by assumption)] at this; exact this
  | _ => exact SR.kill n h

/-- a store whose objects are those of another, some names in them forgotten or some objects dropped -/
structure Sub (ob ob' : Store) : Prop where
  back : ∀ n o', ob'.get n = some o' → ∃ o, ob.get n = some o ∧ Like o o'

theorem Sub.moves {ob' : Store} (h : Sub ob ob') : Moves E ob μ w E ob' μ w where
  size := Nat.le_refl _
  sb := fun _ _ hs _ => ⟨fun ⟨n, o', x, h1, h2, h3⟩ => let ⟨o, ho, _⟩ := h.back n o' h1; hs.1 ⟨n, o, x, ho, h2, h3⟩, hs.2⟩
  agree := fun _ _ _ => rfl

theorem Rel.sub {ob' : Store} (hR : Rel E ob μ w) (h : Sub ob ob') (ho : ∀ n o', ob'.get n = some o' → ObjR E ob' μ w n o') : Rel E ob' μ w where
  lent := hR.lent
  size := hR.size
  io := hR.io
  frame := hR.frame
  own := fun n o' x h1 h2 => let ⟨o, h3, _⟩ := h.back n o' h1; hR.own n o x h3 h2
  inj := fun n m o1 o2 x y h1 h2 h3 h4 hb => let ⟨o3, h5, _⟩ := h.back n o1 h1; let ⟨o4, h6, _⟩ := h.back m o2 h2; hR.inj n m o3 o4 x y h5 h6 h3 h4 hb
  keep := fun n x c T hB => by
    obtain ⟨k1, k2⟩ := hR.keep n x c T hB
    refine ⟨k1, fun o' ho' => ?_⟩
    obtain ⟨o, h1, h2⟩ := h.back n o' ho'
    obtain ⟨⟨a, rfl⟩, h3⟩ := k2 o h1
    cases o' with
    | arr => exact h2.elim
    | box T' a' => obtain rfl : T = T' := h2; exact ⟨⟨_, rfl⟩, h3⟩
  objs := ho

theorem Sub.kill (n : Nat) : Sub ob (ob.kill n) := ⟨fun m o' h => by
  rw [Store.get_kill] at h
  cases hg : ob.get m with
  | none => simp [hg] at h
  | some o => simp [hg] at h; subst h; exact ⟨o, rfl, by cases o <;> simp [Like, Obj.kill]⟩⟩
theorem Keeps.kill (n m : Nat) : Keeps ob μ (ob.kill n) μ m := fun o ho => ⟨o.kill n, by rw [Store.get_kill, ho]; rfl, by cases o <;> simp [Like, Obj.kill], rfl, rfl⟩

theorem ObjR.kill (n m : Nat) {o : Obj} (h : ObjR E ob μ w m o) : ObjR E ob μ w m (o.kill n) := by
  cases o with
  | arr => exact h
  | box T a => obtain ⟨x, cs, h1, h2, h3, h4⟩ := h; exact ⟨x, cs, h1, h2, h3.kill n, h4⟩

theorem Rel.kill (hR : Rel E ob μ w) (n : Nat) : Rel E (ob.kill n) μ w :=
  hR.sub (Sub.kill n) fun m o' h => by
    rw [Store.get_kill] at h
    cases hg : ob.get m with
    | none => simp [hg] at h
    | some o =>
      simp [hg] at h; subst h
      exact ((hR.objs m o hg).kill n m).move (Sub.kill n).moves (fun k _ => Keeps.kill n k) (fun _ _ => rfl) rfl rfl
theorem VR.kills (n : Nat) {x : AV} {v : Value} (h : VR E ob μ w x v) : VR E (ob.kill n) μ w (x.kill n) v :=
  (h.kill n).move (Sub.kill n).moves (fun k _ => Keeps.kill n k)

theorem SlotsR.move {E' : Env} {ob' : Store} {μ' : Mu} (m : Moves E ob μ w E' ob' μ' w') {sl : List AV} {tmps : Array Value}
    (hk : ∀ x ∈ sl, ∀ n ∈ x.names, Keeps ob μ ob' μ' n) (h : SlotsR E ob μ w sl tmps) : SlotsR E' ob' μ' w' sl tmps :=
  ⟨h.1, fun i hi => (h.2 i hi).move m (hk _ (List.getElem_mem hi))⟩
theorem SlotsR.kills (n : Nat) {sl : List AV} {tmps : Array Value} (h : SlotsR E ob μ w sl tmps) : SlotsR E (ob.kill n) μ w (sl.map (·.kill n)) tmps :=
  ⟨by simpa using h.1, fun i hi => by simpa using (h.2 i (by simpa using hi)).kills n⟩

end
end Go.Eng

/- The engine, part 7: what a program's type table must say of a data type; reading and writing whole variables. -/
namespace Go.Eng

def Head (P : Program) (T : TypeId) (n : Nat) (agg : Bool) (zs : List Value) : Prop :=
  ∃ i z, P.info? T = some i ∧ i.size = n ∧ i.zero = some z ∧ z.cells.toList = zs ∧ (agg = true → ∃ c, z = .agg c) ∧ (agg = false → z.cells = #[z])

def opqDesc : OpqK → TypeDesc → Bool
  | .ptr, .pointer _ | .fn, .func .. | .mp, .map .. | .ifc, .interface _ => true
  | _, _ => false

mutual
/-- type T of the program is the data type -/
def TOK (P : Program) : Ty → TypeId → Prop
  | .int k, T => Head P T 1 false [.int k 0] ∧ P.underlying T = some (.int k)
  | .bool, T => Head P T 1 false [.bool false] ∧ P.underlying T = some .bool
  | .str, T => Head P T 1 false [.string ByteArray.empty] ∧ P.underlying T = some .string
  | .sl t, T => Head P T 1 false [.slice none 0 0] ∧ ∃ e, P.underlying T = some (.slice e) ∧ TOK P t e
  | .arr n t, T => Head P T (n * t.size) true (Ty.zeros (.arr n t)) ∧ ∃ e, P.underlying T = some (.array n e) ∧ TOK P t e
  | .unit, T => Head P T 0 true [] ∧ P.stoodInHeld T = false ∧ ∃ fs, P.underlying T = some (.struct fs) ∧ fs.toList = []
  | .pair a b, T => Head P T (a.size + b.size) true (a.zeros ++ b.zeros) ∧ P.stoodInHeld T = false ∧
      ∃ fs f r, P.underlying T = some (.struct fs) ∧ fs.toList = f :: r ∧ f.offset = 0 ∧ f.name ≠ "_" ∧ TOK P a f.type ∧ FOK P b r a.size
  | .opq k, T => Head P T 1 false [k.nil] ∧ ∃ d, P.underlying T = some d ∧ opqDesc k d = true
def FOK (P : Program) : Ty → List Field → Nat → Prop
  | .unit, r, _ => r = []
  | .pair a b, r, o => ∃ f r', r = f :: r' ∧ f.offset = o ∧ f.name ≠ "_" ∧ TOK P a f.type ∧ FOK P b r' (o + a.size)
  | _, _, _ => False
end

theorem TOK.head {P : Program} : {t : Ty} → {T : TypeId} → TOK P t T → Head P T t.size t.isAgg t.zeros
  | .int _, _, h | .bool, _, h | .str, _, h | .sl _, _, h | .arr .., _, h | .unit, _, h | .pair .., _, h | .opq _, _, h => by
    simp only [TOK] at h; exact h.1

/-! ### the check of a type table -/

def vEq : Value → Value → Bool
  | .int k n, .int k' n' => k == k' && n == n'
  | .bool a, .bool b => a == b
  | .string a, .string b => a.data == b.data
  | .slice none a b, .slice none a' b' => a == a' && b == b'
  | .pointer none, .pointer none => true
  | .map none, .map none => true
  | .nilFunc, .nilFunc => true
  | .nilIface, .nilIface => true
  | _, _ => false
theorem vEq_eq {a b : Value} (h : vEq a b = true) : a = b := by
  unfold vEq at h
  split at h <;> simp_all
  rename_i a b; cases a; cases b; simp_all
def vsEq : List Value → List Value → Bool
  | [], [] => true
  | a :: l, b :: m => vEq a b && vsEq l m
  | _, _ => false
theorem vsEq_eq : {a b : List Value} → vsEq a b = true → a = b
  | [], [], _ => rfl
  | a :: l, b :: m, h => by simp only [vsEq, Bool.and_eq_true] at h; rw [vEq_eq h.1, vsEq_eq h.2]
  | [], _ :: _, h => by simp [vsEq] at h
  | _ :: _, [], h => by simp [vsEq] at h

def headB (P : Program) (T : TypeId) (n : Nat) (agg : Bool) (zs : List Value) : Bool :=
  match P.info? T with
  | some i => i.size == n && match i.zero with
    | some z => vsEq z.cells.toList zs && match z with
      | .agg _ => agg
      | _ => !agg
    | none => false
  | none => false
theorem headB_head {P : Program} {T : TypeId} {n : Nat} {agg : Bool} {zs : List Value} (h : headB P T n agg zs = true) : Head P T n agg zs := by
  unfold headB at h
  cases hi : P.info? T with
  | none => simp [hi] at h
  | some i =>
    simp only [hi, Bool.and_eq_true] at h
    obtain ⟨h1, h2⟩ := h
    cases hz : i.zero with
    | none => simp [hz] at h2
    | some z =>
      simp only [hz, Bool.and_eq_true] at h2
      obtain ⟨h2, h3⟩ := h2
      refine ⟨i, z, hi, by simpa using h1, hz, vsEq_eq h2, ?_, ?_⟩
      · intro ha; subst ha; cases z <;> simp at h3; exact ⟨_, rfl⟩
      · intro ha; subst ha; cases z <;> simp_all [Value.cells]

mutual
def tokB (P : Program) : Ty → TypeId → Bool
  | .int k, T => headB P T 1 false [.int k 0] && (match P.underlying T with | some (.int k') => k' == k | _ => false)
  | .bool, T => headB P T 1 false [.bool false] && (match P.underlying T with | some .bool => true | _ => false)
  | .str, T => headB P T 1 false [.string ByteArray.empty] && (match P.underlying T with | some .string => true | _ => false)
  | .sl t, T => headB P T 1 false [.slice none 0 0] && (match P.underlying T with | some (.slice e) => tokB P t e | _ => false)
  | .arr n t, T => headB P T (n * t.size) true (Ty.zeros (.arr n t)) && (match P.underlying T with | some (.array m e) => m == n && tokB P t e | _ => false)
  | .unit, T => headB P T 0 true [] && !P.stoodInHeld T && (match P.underlying T with | some (.struct fs) => fs.toList.isEmpty | _ => false)
  | .pair a b, T => headB P T (a.size + b.size) true (a.zeros ++ b.zeros) && !P.stoodInHeld T && (match P.underlying T with
    | some (.struct fs) => (match fs.toList with
      | f :: r => f.offset == 0 && f.name != "_" && tokB P a f.type && fokB P b r a.size
      | [] => false)
    | _ => false)
  | .opq k, T => headB P T 1 false [k.nil] && (match P.underlying T with | some d => opqDesc k d | none => false)
def fokB (P : Program) : Ty → List Field → Nat → Bool
  | .unit, r, _ => r.isEmpty
  | .pair a b, r, o => (match r with
    | f :: r' => f.offset == o && f.name != "_" && tokB P a f.type && fokB P b r' (o + a.size)
    | [] => false)
  | _, _, _ => false
end

mutual
theorem tokB_tok {P : Program} : {t : Ty} → {T : TypeId} → tokB P t T = true → TOK P t T
  | .int k, T, h => by
    simp only [tokB, Bool.and_eq_true] at h; simp only [TOK]
    refine ⟨headB_head h.1, ?_⟩
    have := h.2; split at this <;> simp_all
  | .bool, T, h => by
    simp only [tokB, Bool.and_eq_true] at h; simp only [TOK]
    refine ⟨headB_head h.1, ?_⟩
    have := h.2; split at this <;> simp_all
  | .str, T, h => by
    simp only [tokB, Bool.and_eq_true] at h; simp only [TOK]
    refine ⟨headB_head h.1, ?_⟩
    have := h.2; split at this <;> simp_all
  | .sl t, T, h => by
    simp only [tokB, Bool.and_eq_true] at h; simp only [TOK]
    refine ⟨headB_head h.1, ?_⟩
    have := h.2; split at this
    · exact ⟨_, by assumption, tokB_tok this⟩
    · simp at this
  | .arr n t, T, h => by
    simp only [tokB, Bool.and_eq_true] at h; simp only [TOK]
    refine ⟨headB_head h.1, ?_⟩
    have := h.2; split at this
    · simp only [Bool.and_eq_true, beq_iff_eq] at this; obtain ⟨rfl, h2⟩ := this; exact ⟨_, by assumption, tokB_tok h2⟩
    · simp at this
  | .unit, T, h => by
    simp only [tokB, Bool.and_eq_true] at h; simp only [TOK]
    refine ⟨headB_head h.1.1, by simpa using h.1.2, ?_⟩
    have := h.2; split at this
    · exact ⟨_, by assumption, by simpa using this⟩
    · simp at this
  | .pair a b, T, h => by
    simp only [tokB, Bool.and_eq_true] at h; simp only [TOK]
    obtain ⟨⟨h0, h1⟩, h2⟩ := h
    refine ⟨headB_head h0, by simpa using h1, ?_⟩
    split at h2
    · rename_i fs hu
      split at h2
      · rename_i f r hf
        simp only [Bool.and_eq_true, beq_iff_eq] at h2
        exact ⟨_, f, r, hu, hf, h2.1.1.1, by simpa using h2.1.1.2, tokB_tok h2.1.2, fokB_fok h2.2⟩
      · simp at h2
    · simp at h2
  | .opq k, T, h => by
    simp only [tokB, Bool.and_eq_true] at h; simp only [TOK]
    refine ⟨headB_head h.1, ?_⟩
    have := h.2; split at this
    · exact ⟨_, by assumption, this⟩
    · simp at this
theorem fokB_fok {P : Program} : {t : Ty} → {r : List Field} → {o : Nat} → fokB P t r o = true → FOK P t r o
  | .unit, r, _, h => by simpa [fokB, FOK] using h
  | .pair a b, r, o, h => by
    simp only [fokB] at h; simp only [FOK]
    split at h
    · rename_i f r'
      simp only [Bool.and_eq_true, beq_iff_eq] at h
      exact ⟨f, r', rfl, h.1.1.1, by simpa using h.1.1.2, tokB_tok h.1.2, fokB_fok h.2⟩
    · simp at h
  | .int _, _, _, h | .bool, _, _, h | .str, _, _, h | .sl _, _, _, h | .arr .., _, _, h | .opq _, _, _, h => by simp [fokB] at h
end

/-! ### runs over a type -/
section
variable {P : Program} {t : Ty} {T : TypeId}

theorem run_underlying' {d : TypeDesc} (h : P.underlying T = some d) (w : World) : (underlying T).run P w = .ok d w := by
  simp [underlying, h]
theorem Head.sizeOf {n : Nat} {agg : Bool} {zs : List Value} (h : Head P T n agg zs) (w : World) : (sizeOf T).run P w = .ok n w := by
  obtain ⟨i, z, h1, h2, _⟩ := h
  simp [Go.sizeOf, typeInfo, h1, h2]
theorem TOK.sizeOf (h : TOK P t T) (w : World) : (sizeOf T).run P w = .ok t.size w := h.head.sizeOf w
theorem TOK.zero (h : TOK P t T) : ∃ z, (∀ w, (zeroValue T).run P w = .ok z w) ∧ z.cells.toList = t.zeros ∧ (t.isAgg = true → ∃ c, z = .agg c) ∧ (t.isAgg = false → z.cells = #[z]) := by
  obtain ⟨i, z, h1, h2, h3, h4, h5, h6⟩ := h.head
  exact ⟨z, fun w => by simp [zeroValue, typeInfo, h1, h3], h4, h5, h6⟩
theorem TOK.isAgg (h : TOK P t T) (w : World) : (isAgg T).run P w = .ok t.isAgg w := by
  cases t with
  | int k | bool | str => simp only [TOK] at h; simp [Go.isAgg, run_underlying' h.2, Ty.isAgg]
  | sl t | arr n t => simp only [TOK] at h; obtain ⟨_, e, hu, _⟩ := h; simp [Go.isAgg, run_underlying' hu, Ty.isAgg]
  | unit => simp only [TOK] at h; obtain ⟨_, _, fs, hu, _⟩ := h; simp [Go.isAgg, run_underlying' hu, Ty.isAgg]
  | pair a b => simp only [TOK] at h; obtain ⟨_, _, fs, f, r, hu, _⟩ := h; simp [Go.isAgg, run_underlying' hu, Ty.isAgg]
  | opq k =>
    simp only [TOK] at h
    obtain ⟨_, d, hu, hd⟩ := h
    cases k <;> cases d <;> simp [opqDesc] at hd <;> simp [Go.isAgg, run_underlying' hu, Ty.isAgg]

theorem addr_add (b o n : Nat) : (⟨b, o, none⟩ : Addr).add n = ⟨b, o + n, none⟩ := by unfold Addr.add; split <;> simp_all

/-- the value of a slot, of given cells -/
def Shape (T : Ty) (v : Value) : Prop := (T.isAgg = true → ∃ c, v = .agg c) ∧ (T.isAgg = false → v.cells = #[v])

theorem CellsAt.list {w : World} {b o : Nat} {cs : List Value} (h : CellsAt w b o cs) : ∀ j v, cs[j]? = some v → w.cell? ((⟨b, o, none⟩ : Addr).add j) = some v := by
  intro j v hj
  obtain ⟨hlt, rfl⟩ := List.getElem?_eq_some_iff.1 hj
  rw [addr_add]; exact h j hlt

theorem one_cells {v : Value} (h : v.oneCell' = true) : v.cells = #[v] := by cases v <;> simp_all [Value.cells, Value.oneCell']

theorem TOK.loadVar (h : TOK P t T) {w : World} {b o : Nat} {cs : List Value} (hl : cs.length = t.size) (h1 : ∀ v ∈ cs, v.oneCell' = true) (hc : CellsAt w b o cs) :
    ∃ v, (loadVar T ⟨b, o, none⟩).run P w = .ok v w ∧ v.cells.toList = cs ∧ Shape t v := by
  cases ha : t.isAgg with
  | true =>
    refine ⟨.agg cs.toArray, ?_, by simp [Value.cells], fun _ => ⟨_, rfl⟩, fun h => by simp [ha] at h⟩
    have := run_loadCells_list (P := P) w ⟨b, o, none⟩ cs hc.list
    simp [Go.loadVar, h.isAgg, ha, h.sizeOf, ← hl, this]
  | false =>
    have hl1 : cs.length = 1 := by rw [hl]; cases t <;> simp_all [Ty.isAgg, Ty.size]
    obtain ⟨v, rfl⟩ := List.length_eq_one_iff.1 hl1
    have hv : w.cell? ⟨b, o, none⟩ = some v := by simpa using hc 0 (by simp)
    have hone := one_cells (h1 v (by simp))
    exact ⟨v, by simp [Go.loadVar, h.isAgg, ha, hv], by simp [hone], by simp [ha], fun _ => hone⟩

/-! ### what is stored -/

theorem setCells_size (b : Nat) : ∀ (vs : List Value) (o : Nat) (w : World), (w.setCells b o vs).heap.size = w.heap.size
  | [], _, _ => rfl
  | v :: r, o, w => by rw [World.setCells, setCells_size b r]; simp [World.setCell]
theorem setCells_other (b : Nat) : ∀ (vs : List Value) (o : Nat) (w : World) (c : Nat), c ≠ b → (w.setCells b o vs).heap[c]? = w.heap[c]?
  | [], _, _, _, _ => rfl
  | v :: r, o, w, c, hc => by
    rw [World.setCells, setCells_other b r _ _ c hc]
    simp [World.setCell, Array.getElem?_modify, Ne.symm hc]
theorem setCell_cells {w : World} {b o : Nat} {v : Value} {c : Array Value} {e : TypeId} {fz : Nat × Nat} (h : w.heap[b]? = some (.cells c e fz)) :
    (w.setCell ⟨b, o, none⟩ v).heap[b]? = some (.cells (c.setIfInBounds o v) e fz) := by
  simp [World.setCell, Array.getElem?_modify, h]
theorem setCells_cells {b : Nat} {e : TypeId} {fz : Nat × Nat} : ∀ (vs : List Value) (o : Nat) {w : World} {c : Array Value}, w.heap[b]? = some (.cells c e fz) →
    ∃ c', (w.setCells b o vs).heap[b]? = some (.cells c' e fz) ∧ c'.size = c.size ∧ ∀ i, (i < o ∨ o + vs.length ≤ i) → c'[i]? = c[i]?
  | [], _, _, c, h => ⟨c, h, rfl, fun _ _ => rfl⟩
  | v :: r, o, w, c, h => by
    obtain ⟨c', h1, h2, h3⟩ := setCells_cells r (o + 1) (setCell_cells (o := o) (v := v) h)
    refine ⟨c', h1, by simpa using h2, fun i hi => ?_⟩
    rw [h3 i (by simp at hi; omega)]
    simp at hi
    rw [Array.getElem?_setIfInBounds_ne (by omega)]

/-- a stretch of an owned row is written: the row stays owned; the new cells stand there; the others as before -/
theorem Own.store {w : World} {b o k p : Nat} {cs : List Value} (ho : Own w b o k) (h1 : ∀ v ∈ cs, v.oneCell' = true) (hp : p + cs.length ≤ k) :
    (∀ P, (storeCells ⟨b, o + p, none⟩ cs).run P w = .ok () (w.setCells b (o + p) cs)) ∧ Own (w.setCells b (o + p) cs) b o k ∧ CellsAt (w.setCells b (o + p) cs) b (o + p) cs ∧
      (∀ q es, q + es.length ≤ p ∨ p + cs.length ≤ q → CellsAt w b (o + q) es → CellsAt (w.setCells b (o + p) cs) b (o + q) es) := by
  obtain ⟨c, e, fz, hb, hsz, hf⟩ := ho
  have hcell : ∀ (w' : World) (c' : Array Value), w'.heap[b]? = some (.cells c' e fz) → ∀ i, w'.cell? ⟨b, i, none⟩ = c'[i]? := fun w' c' h i => by simp [World.cell?, h]
  have hsome : ∀ j, j < cs.length → (w.cell? ⟨b, o + p + j, none⟩).isSome = true := fun j hj => by
    rw [hcell w c hb]; simp; omega
  obtain ⟨c', g1, g2, g3⟩ := setCells_cells cs (o + p) hb
  refine ⟨fun P => ?_, ⟨c', e, fz, g1, by omega, fun j hj => by rw [World.frozen?_setCells]; exact hf j hj⟩, fun j hj => ?_, fun q es hq hes j hj => ?_⟩
  · have := run_storeCells_cells (P := P) b (o + p) cs 0 w (by simpa using hsome) (fun j hj => by simpa [Nat.add_assoc] using hf (p + j) (by omega)) h1
    simpa using this
  · exact World.cell?_setCells_in b cs (o + p) w hsome j hj
  · have := hes j hj
    rw [hcell _ _ hb] at this
    rw [hcell _ _ g1, g3 _ (by omega), this]

theorem TOK.storeVar (h : TOK P t T) {w : World} {b o k p : Nat} {v : Value} (ho : Own w b o k) (hl : v.cells.toList.length = t.size) (h1 : ∀ x ∈ v.cells.toList, x.oneCell' = true)
    (hp : p + t.size ≤ k) : (storeVar T ⟨b, o + p, none⟩ v).run P w = .ok () (w.setCells b (o + p) v.cells.toList) := by
  have := (ho.store h1 (p := p) (by omega)).1 P
  have hz : v.cells.size = t.size := by simpa using hl
  simp [Go.storeVar, h.sizeOf, hz, this]

/-- a new row -/
def World.pushed (w : World) (cs : Array Value) (e : TypeId) : World := { w with heap := w.heap.push (.cells cs e) }
theorem pushed_size (w : World) (cs : Array Value) (e : TypeId) : (World.pushed w cs e).heap.size = w.heap.size + 1 := by
  show (w.heap.push _).size = _
  rw [Array.size_push]
theorem pushed_old (w : World) (cs : Array Value) (e : TypeId) (b : Nat) (h : b < w.heap.size) : (World.pushed w cs e).heap[b]? = w.heap[b]? := by
  show (w.heap.push (.cells cs e))[b]? = _
  rw [Array.getElem?_push, if_neg (Nat.ne_of_lt h)]
theorem pushed_new (w : World) (cs : Array Value) (e : TypeId) : (World.pushed w cs e).heap[w.heap.size]? = some (.cells cs e (0, 0)) := by
  show (w.heap.push (.cells cs e))[w.heap.size]? = _
  rw [Array.getElem?_push, if_pos rfl]
theorem pushed_own (w : World) (cs : Array Value) (e : TypeId) (k : Nat) (h : k ≤ cs.size) : Own (World.pushed w cs e) w.heap.size 0 k :=
  ⟨cs, e, (0, 0), pushed_new w cs e, by omega, fun j _ => by simp [World.frozen?, pushed_new]⟩
theorem pushed_at (w : World) (cs : Array Value) (e : TypeId) (p : Nat) (es : List Value) (h : ∀ j (hj : j < es.length), cs[p + j]? = some es[j]) :
    CellsAt (World.pushed w cs e) w.heap.size p es := fun j hj => by
  simp only [World.cell?, pushed_new]; simpa using h j hj

end
end Go.Eng

/- The engine, part 8: operations on plain numbers, bools and strings. -/
namespace Go.Eng

structure StR (E : Env) (st : St) (μ : Mu) (a : Act) (w : World) : Prop where
  rel : Rel E st.ob μ w
  slots : SlotsR E st.ob μ w st.sl a.tmps
  defers : a.defers = []

/-- more memory, nothing else -/
structure Ext (w w' : World) : Prop where
  size : w.heap.size ≤ w'.heap.size
  io : Io w w'
  old : ∀ b, b < w.heap.size → w'.heap[b]? = w.heap[b]?
theorem Ext.refl (w : World) : Ext w w := ⟨Nat.le_refl _, Io.refl _, fun _ _ => rfl⟩
theorem Ext.trans {a b c : World} (h : Ext a b) (k : Ext b c) : Ext a c :=
  ⟨Nat.le_trans h.size k.size, h.io.trans k.io, fun x hx => (k.old x (Nat.lt_of_lt_of_le hx h.size)).trans (h.old x hx)⟩
/-- it gives v, here and wherever there is more memory -/
def RunsTo (P : Program) (w : World) (m : Sem Value) (v : Value) : Prop := ∀ w', Ext w w' → m.run P w' = .ok v w'
theorem RunsTo.here {P : Program} {w : World} {m : Sem Value} {v : Value} (h : RunsTo P w m v) : m.run P w = .ok v w := h w (Ext.refl w)
theorem CellsAt.ext {w w' : World} (h : Ext w w') {b o : Nat} {cs : List Value} (hb : b < w.heap.size) (hc : CellsAt w b o cs) : CellsAt w' b o cs := hc.of (h.old b hb)
theorem cells_inj {v v' : Value} {t : Ty} (h : v.cells.toList = v'.cells.toList) (h1 : Shape t v) (h2 : Shape t v') : v = v' := by
  have h := Array.toList_inj.1 h
  cases ha : t.isAgg with
  | true =>
    obtain ⟨c, rfl⟩ := h1.1 ha
    obtain ⟨c', rfl⟩ := h2.1 ha
    simpa [Value.cells] using h
  | false =>
    have e1 := h1.2 ha
    have e2 := h2.2 ha
    rw [e1, e2] at h
    simpa using h

/-- an operation may be told as: it gives x and leaves the state st' -/
def OpS (P : Program) (E : Env) (st : St) (o : Oper) (x : AV) (st' : St) : Prop :=
  ∀ μ a w, StR E st μ a w → ∀ next Q, (∀ μ' v w', StR E st' μ' a w' → VR E st'.ob μ' w' x v → next (a.put o.dst v) w') → Oper.wp P o a w next Q

section
variable {P : Program} {E : Env} {st st' : St} {o : Oper} {x : AV}

theorem OpS.of (h : ∀ μ a w, StR E st μ a w → ∃ v w' μ', (execOp a.eval o).run P w = .ok (.value v) w' ∧ StR E st' μ' a w' ∧ VR E st'.ob μ' w' x v) :
    OpS P E st o x st' := by
  intro μ a w hr next Q hn
  obtain ⟨v, w', μ', h1, h2, h3⟩ := h μ a w hr
  unfold Oper.wp
  rw [h1, Oper.upon_value]
  exact hn μ' v w' h2 h3
theorem OpS.pure (h : ∀ μ a w, StR E st μ a w → ∃ v, (execOp a.eval o).run P w = .ok (.value v) w ∧ VR E st.ob μ w x v) : OpS P E st o x st :=
  OpS.of fun μ a w hr => let ⟨v, h1, h2⟩ := h μ a w hr; ⟨v, w, μ, h1, hr, h2⟩
theorem OpS.skip (h : ∀ μ a w, StR E st μ a w → ∃ w' μ', (execOp a.eval o).run P w = .ok .skip w' ∧ StR E st' μ' a w') : OpS P E st o .dead st' := by
  intro μ a w hr next Q hn
  obtain ⟨w', μ', h1, h2⟩ := h μ a w hr
  unfold Oper.wp
  rw [h1, Oper.upon_skip]
  exact hn μ' undef w' h2 trivial
end

section
variable {E : Env} {ob : Store} {μ : Mu} {w : World}

theorem VR.v_iff {g : Bool} {t : Ty} {d : t.D} {a : Value} : VR E ob μ w (.v g t d) a ↔ R w (Sb E ob μ g) t d a.cells.toList ∧ Shape t a := by
  constructor
  · rintro ⟨T, ⟨rfl, h1⟩, h2⟩; exact ⟨h1, h2⟩
  · rintro ⟨h1, h2⟩; exact ⟨t, ⟨rfl, h1⟩, h2⟩
theorem VR.int {g : Bool} {j : IntKind} {n : Int} {a : Value} (h : VR E ob μ w (.v g (.int j) n) a) : a = .int j n ∧ ok j n := by
  obtain ⟨h1, h2⟩ := VR.v_iff.1 h
  simp only [R] at h1
  have h3 := h2.2 rfl
  rw [h3] at h1
  simpa using h1
theorem VR.bool {g : Bool} {b : Bool} {a : Value} (h : VR E ob μ w (.v g .bool b) a) : a = .bool b := by
  obtain ⟨h1, h2⟩ := VR.v_iff.1 h
  simp only [R] at h1
  have h3 := h2.2 rfl
  rw [h3] at h1
  simpa using h1
theorem VR.str {g : Bool} {b : ByteArray} {a : Value} (h : VR E ob μ w (.v g .str b) a) : a = .string b := by
  obtain ⟨h1, h2⟩ := VR.v_iff.1 h
  simp only [R] at h1
  have h3 := h2.2 rfl
  rw [h3] at h1
  simpa using h1
theorem VR.mkInt {g : Bool} {j : IntKind} {n : Int} (h : ok j n) : VR E ob μ w (.v g (.int j) n) (.int j n) :=
  VR.v_iff.2 ⟨by simp [R, Value.cells, h], by simp [Ty.isAgg], fun _ => rfl⟩
theorem VR.mkBool {g : Bool} {b : Bool} : VR E ob μ w (.v g .bool b) (.bool b) :=
  VR.v_iff.2 ⟨by simp [R, Value.cells], by simp [Ty.isAgg], fun _ => rfl⟩
theorem VR.mkStr {g : Bool} {b : ByteArray} : VR E ob μ w (.v g .str b) (.string b) :=
  VR.v_iff.2 ⟨by simp [R, Value.cells], by simp [Ty.isAgg], fun _ => rfl⟩
theorem VR.mkNl {k : OpqK} : VR E ob μ w (.nl k) k.nil :=
  ⟨.opq k, by cases k <;> simp [CR, OpqK.nil, Value.cells], by simp [Ty.isAgg], fun _ => by cases k <;> rfl⟩
theorem VR.nl {k : OpqK} {a : Value} (h : VR E ob μ w (.nl k) a) : a = k.nil := by
  obtain ⟨T, h1, _, h3⟩ := h
  simp only [CR] at h1
  obtain ⟨rfl, h1⟩ := h1
  have := h3 rfl
  rw [this] at h1
  simpa using h1

theorem constAV_VR (v : Value) : VR E ob μ w (constAV v) v := by
  unfold constAV
  split
  · split
    · exact VR.mkInt (by assumption)
    · trivial
  · exact VR.mkBool
  · exact VR.mkStr
  · exact ⟨.sl .bool, ⟨⟨_, rfl⟩, rfl⟩, by simp [Ty.isAgg], fun _ => rfl⟩
  · exact VR.mkNl (k := .ptr)
  · exact VR.mkNl (k := .fn)
  · exact VR.mkNl (k := .mp)
  · trivial

theorem StR.ev {st : St} {a : Act} (h : StR E st μ a w) (x : Operand) : VR E st.ob μ w (st.ev x) (a.eval x) := by
  cases x with
  | tmp t =>
    simp only [St.ev, Act.eval]
    by_cases ht : t < st.sl.length
    · have := h.slots.2 t ht
      simpa [List.getD, List.getElem?_eq_getElem ht] using this
    · simp [List.getD, List.getElem?_eq_none (Nat.le_of_not_lt ht)]
      trivial
  | const v => exact constAV_VR v
  | global g => trivial
  | func f => exact ⟨.opq .fn, ⟨rfl, by simp [Act.eval, Value.cells], by simp⟩, by simp [Ty.isAgg], fun _ => rfl⟩

theorem ok_tmod {j : IntKind} {a b : Int} (ha : ok j a) : ok j (a.tmod b) := by
  have h0 := ok_zero j
  have h1 : (a.tmod b).natAbs ≤ a.natAbs := by rw [Int.natAbs_tmod]; exact Nat.mod_le _ _
  unfold ok at *
  rcases Int.le_total 0 a with h | h
  · have h2 := Int.tmod_nonneg b h
    omega
  · have h2 : 0 ≤ (-a).tmod b := Int.tmod_nonneg b (by omega)
    rw [Int.neg_tmod] at h2
    omega
theorem ok_fdiv {j : IntKind} {a : Int} (n : Nat) (ha : ok j a) : ok j (a.fdiv (2 ^ n)) := by
  have h0 := ok_zero j
  have hp : (1 : Int) ≤ 2 ^ n := by exact_mod_cast Nat.one_le_two_pow
  rw [Int.fdiv_eq_ediv_of_nonneg _ (by omega)]
  unfold ok at *
  rcases Int.le_total 0 a with h | h
  · have h1 := Int.ediv_nonneg h (by omega : (0:Int) ≤ 2 ^ n)
    have h2 := Int.ediv_le_self (2 ^ n) h
    omega
  · have h1 : a ≤ a / 2 ^ n := by
      rw [Int.le_ediv_iff_mul_le (by omega)]
      have := Int.mul_le_mul_of_nonpos_left h hp
      omega
    have h2 : a / 2 ^ n < 1 := Int.ediv_lt_of_lt_mul (by omega) (by omega)
    omega

/-! ### arithmetic -/
section
variable {R : Type} {k : AV → Option R} {r : R}

/-- what a K-function gives, and that the machine's own operation gives it, whatever the state -/
def Gives (run : Program → World → Result Value) (E : Env) (ob : Store) (P : Program) (z : AV) : Prop :=
  ∀ μ w, ∃ v, run P w = .ok v w ∧ VR E ob μ w z v

def boolEq (op : BinOp) (a b : Bool) (k : AV → Option R) : Option R :=
  match op with
  | .eql => k (.v true .bool (a == b))
  | .neq => k (.v true .bool (!(a == b)))
  | _ => none
end
end
end Go.Eng

/- The engine, part 9: '==' on data; binary operations. -/
namespace Go.Eng

theorem R.one {w : World} {S : Nat → Prop} : {t : Ty} → {d : t.D} → {cs : List Value} → R w S t d cs → ∀ v ∈ cs, v.oneCell' = true
  | .int _, _, _, h => by simp only [R] at h; simp [h.1, Value.oneCell']
  | .bool, _, _, h => by simp only [R] at h; simp [h, Value.oneCell']
  | .str, _, _, h => by simp only [R] at h; simp [h, Value.oneCell']
  | .sl _, _, _, h => by simp only [R] at h; obtain ⟨a, cap, rfl, _⟩ := h; simp [Value.oneCell']
  | .arr n t, l, cs, h => by
    simp only [R] at h
    obtain ⟨h1, h2, h3⟩ := h
    intro v hv
    obtain ⟨j, hj, rfl⟩ := List.mem_iff_getElem.1 hv
    have hs : 0 < t.size := by rcases Nat.eq_zero_or_pos t.size with e | e; · rw [h2, e] at hj; omega
                               · exact e
    have hi : j / t.size < n := by rw [Nat.div_lt_iff_lt_mul hs]; omega
    have hm := Nat.mod_lt j hs
    have hd := Nat.div_add_mod j t.size
    have := R.one (h3 (j / t.size) (by omega)) cs[j] (by
      rw [List.mem_iff_getElem]
      have e : j / t.size * t.size + j % t.size = j := by rw [Nat.mul_comm]; exact hd
      refine ⟨j % t.size, ?_, ?_⟩
      · simp only [List.length_take, List.length_drop]; omega
      · simp only [List.getElem_take, List.getElem_drop]
        congr 1)
    exact this
  | .unit, _, _, h => by simp only [R] at h; simp [h]
  | .pair a b, d, cs, h => by
    simp only [R] at h
    intro v hv
    rw [← List.take_append_drop a.size cs, List.mem_append] at hv
    exact hv.elim (R.one h.1 v) (R.one h.2 v)
  | .opq _, _, _, h => by simp only [R] at h

section
variable {P : Program} {w w' : World} {S S' : Nat → Prop}

theorem part_run {t : Ty} {T : TypeId} (h : TOK P t T) {xs : Array Value} {off : Nat} (hl : ((xs.toList.drop off).take t.size).length = t.size)
    (h1 : ∀ v ∈ (xs.toList.drop off).take t.size, v.oneCell' = true) :
    ∃ v, (∀ w, (part T xs off).run P w = .ok v w) ∧ v.cells.toList = (xs.toList.drop off).take t.size ∧ Shape t v := by
  cases ha : t.isAgg with
  | true =>
    refine ⟨.agg (xs.extract off (off + t.size)), fun w => by simp [part, h.isAgg, ha, h.sizeOf], ?_, fun _ => ⟨_, rfl⟩, fun h => by simp [ha] at h⟩
    simp only [Value.cells, Array.toList_extract, List.extract_eq_take_drop]
    rw [show off + t.size - off = t.size by omega]
  | false =>
    have hs : t.size = 1 := by cases t <;> simp_all [Ty.isAgg, Ty.size]
    rw [hs] at hl h1 ⊢
    obtain ⟨v, hv⟩ := List.length_eq_one_iff.1 hl
    have hx : xs[off]? = some v := getElem?_of_chunk (c := 1) hv
    have hone := one_cells (h1 v (by simp [hv]))
    exact ⟨v, fun w => by simp [part, h.isAgg, ha, hx], by rw [hv, hone], by simp [ha], fun _ => hone⟩

theorem shape_agg {t : Ty} {v : Value} (h : Shape t v) (ha : t.isAgg = true) : ∃ c, v = .agg c := h.1 ha

theorem run_struct {T : TypeId} {fs : Array Field} (hu : P.underlying T = some (.struct fs)) (hp : P.stoodInHeld T = false) (D : Nat) (xs ys : Array Value) :
    (Op.equalIn (D + 1) T (.agg xs) (.agg ys)).run P w = (Op.eqFields D xs ys fs.toList).run P w := by
  have hf : P.fieldsOf T = fs := by simp [Program.fieldsOf, hu]
  rw [run_equalIn_struct (P := P) w D T xs ys (by rw [hf]; exact hu) hp, hf]

mutual
theorem eqIn {T : TypeId} : {t : Ty} → TOK P t T → t.cmp = true → ∀ (D : Nat), t.dp ≤ D → ∀ {d d' : t.D} {a b : Value},
    R w S t d a.cells.toList → Shape t a → R w S' t d' b.cells.toList → Shape t b → ∀ w', (Op.equalIn D T a b).run P w' = .ok (t.eqB d d') w'
  | .int k, h, _, D, hD, d, d', a, b, ha, sa, hb, sb, w' => by
    obtain ⟨D, rfl⟩ : ∃ m, D = m + 1 := ⟨D - 1, by simp [Ty.dp] at hD; omega⟩
    simp only [R, sa.2 rfl, sb.2 rfl] at ha hb
    obtain ⟨rfl, _⟩ : a = .int k d ∧ True := by simpa using ha.1
    obtain ⟨rfl, _⟩ : b = .int k d' ∧ True := by simpa using hb.1
    simp only [TOK] at h
    rw [run_equalIn_int w' D T k k d d' h.2]; rfl
  | .bool, h, _, D, hD, d, d', a, b, ha, sa, hb, sb, w' => by
    obtain ⟨D, rfl⟩ : ∃ m, D = m + 1 := ⟨D - 1, by simp [Ty.dp] at hD; omega⟩
    simp only [R, sa.2 rfl, sb.2 rfl] at ha hb
    obtain rfl : a = .bool d := by simpa using ha
    obtain rfl : b = .bool d' := by simpa using hb
    simp only [TOK] at h
    rw [run_equalIn_bool' w' D T d d' h.2]; rfl
  | .str, h, _, D, hD, d, d', a, b, ha, sa, hb, sb, w' => by
    obtain ⟨D, rfl⟩ : ∃ m, D = m + 1 := ⟨D - 1, by simp [Ty.dp] at hD; omega⟩
    simp only [R, sa.2 rfl, sb.2 rfl] at ha hb
    obtain rfl : a = .string d := by simpa using ha
    obtain rfl : b = .string d' := by simpa using hb
    simp only [TOK] at h
    rw [run_equalIn_string w' D T d d' h.2, ← beq_toListBytes]; rfl
  | .sl t, _, hc, _, _, _, _, _, _, _, _, _, _, _ => by simp [Ty.cmp] at hc
  | .opq k, _, hc, _, _, _, _, _, _, _, _, _, _, _ => by simp [Ty.cmp] at hc
  | .unit, h, _, D, hD, d, d', a, b, ha, sa, hb, sb, w' => by
    obtain ⟨D, rfl⟩ : ∃ m, D = m + 1 := ⟨D - 1, by simp [Ty.dp] at hD; omega⟩
    obtain ⟨ca, rfl⟩ := sa.1 rfl
    obtain ⟨cb, rfl⟩ := sb.1 rfl
    simp only [TOK] at h
    obtain ⟨_, hp, fs, hu, hf⟩ := h
    rw [run_struct hu hp, hf]
    simp [Op.eqFields, Ty.eqB]
  | .arr n t, h, hc, D, hD, d, d', a, b, ha, sa, hb, sb, w' => by
    obtain ⟨D, rfl⟩ : ∃ m, D = m + 1 := ⟨D - 1, by simp [Ty.dp] at hD; omega⟩
    obtain ⟨ca, rfl⟩ := sa.1 rfl
    obtain ⟨cb, rfl⟩ := sb.1 rfl
    simp only [TOK] at h
    obtain ⟨_, e, hu, he⟩ := h
    obtain ⟨i, z, hi, hsz, _⟩ := he.head
    have hce : P.cellsOf e = t.size := by simp [Program.cellsOf, hi, hsz]
    rw [run_equalIn_array w' D ca cb hu hi, hce]
    simp only [R, Value.cells] at ha hb
    simp only [Ty.eqB, ha.1]
    have key : ∀ (is : List Nat), (∀ i ∈ is, i < n) → (Op.eqItems D e t.size ca cb is).run P w' = .ok (is.all fun i => t.eqB (d.getD i t.zero) (d'.getD i t.zero)) w' := by
      intro is
      induction is with
      | nil => intro _; simp [Op.eqItems]
      | cons i is ih =>
        intro hlt
        have hin := hlt i (by simp)
        have hai := ha.2.2 i (by rw [ha.1]; exact hin)
        have hbi := hb.2.2 i (by rw [hb.1]; exact hin)
        obtain ⟨va, r1, c1, s1⟩ := part_run he hai.len hai.one
        have r1 := r1 w'
        obtain ⟨vb, r2, c2, s2⟩ := part_run he hbi.len hbi.one
        have r2 := r2 w'
        have hq := eqIn he (by simpa [Ty.cmp] using hc) D (by simp [Ty.dp] at hD; omega) (d := d.getD i t.zero) (d' := d'.getD i t.zero) (a := va) (b := vb)
          (by rw [c1]; simpa [List.getD, List.getElem?_eq_getElem (show i < d.length by rw [ha.1]; exact hin)] using hai) s1
          (by rw [c2]; simpa [List.getD, List.getElem?_eq_getElem (show i < d'.length by rw [hb.1]; exact hin)] using hbi) s2 w'
        simp only [Op.eqItems, Sem.run_bind, r1, r2, hq, Result.andThen_ok, List.all_cons]
        cases t.eqB (d.getD i t.zero) (d'.getD i t.zero)
        · simp
        · simpa using ih fun j hj => hlt j (by simp [hj])
    exact key _ fun i hi => by simpa using hi
  | .pair x y, h, hc, D, hD, d, d', a, b, ha, sa, hb, sb, w' => by
    obtain ⟨D, rfl⟩ : ∃ m, D = m + 1 := ⟨D - 1, by simp [Ty.dp] at hD; omega⟩
    obtain ⟨ca, rfl⟩ := sa.1 rfl
    obtain ⟨cb, rfl⟩ := sb.1 rfl
    simp only [TOK] at h
    obtain ⟨_, hp, fs, f, r, hu, hf, ho, hn, hx, hy⟩ := h
    rw [run_struct hu hp, hf]
    simp only [Ty.cmp, Bool.and_eq_true] at hc
    simp only [Ty.dp] at hD
    simp only [R, Value.cells] at ha hb
    obtain ⟨va, r1, c1, s1⟩ := part_run hx (xs := ca) (off := 0) (by simpa using ha.1.len) (by simpa using ha.1.one)
    have r1 := r1 w'
    obtain ⟨vb, r2, c2, s2⟩ := part_run hx (xs := cb) (off := 0) (by simpa using hb.1.len) (by simpa using hb.1.one)
    have r2 := r2 w'
    have hq := eqIn hx hc.1.1 D (by omega) (d := d.1) (d' := d'.1) (a := va) (b := vb) (by rw [c1]; simpa using ha.1) s1 (by rw [c2]; simpa using hb.1) s2 w'
    have hr := eqFs hy hc.2 D (by omega) (d := d.2) (d' := d'.2) (xs := ca) (ys := cb) ha.2 hb.2 w'
    simp only [Op.eqFields, hn, ne_eq, not_false_eq_true, if_true, Sem.run_bind, ho, r1, r2, hq, Result.andThen_ok, Ty.eqB]
    cases x.eqB d.1 d'.1
    · simp
    · simpa using hr
theorem eqFs : {t : Ty} → {r : List Field} → {o : Nat} → FOK P t r o → t.cmp = true → ∀ (D : Nat), t.dp ≤ D + 1 → ∀ {d d' : t.D} {xs ys : Array Value},
    R w S t d (xs.toList.drop o) → R w S' t d' (ys.toList.drop o) → ∀ w', (Op.eqFields D xs ys r).run P w' = .ok (t.eqB d d') w'
  | .unit, r, o, h, _, D, _, d, d', xs, ys, _, _, w' => by
    simp only [FOK] at h; subst h
    simp [Op.eqFields, Ty.eqB]
  | .pair x y, r, o, h, hc, D, hD, d, d', xs, ys, ha, hb, w' => by
    simp only [FOK] at h
    obtain ⟨f, r', rfl, ho, hn, hx, hy⟩ := h
    simp only [Ty.cmp, Bool.and_eq_true] at hc
    simp only [Ty.dp] at hD
    simp only [R] at ha hb
    obtain ⟨va, r1, c1, s1⟩ := part_run hx ha.1.len ha.1.one
    have r1 := r1 w'
    obtain ⟨vb, r2, c2, s2⟩ := part_run hx hb.1.len hb.1.one
    have r2 := r2 w'
    have hq := eqIn hx hc.1.1 D (by omega) (d := d.1) (d' := d'.1) (a := va) (b := vb) (by rw [c1]; exact ha.1) s1 (by rw [c2]; exact hb.1) s2 w'
    have hr := eqFs hy hc.2 D (by omega) (d := d.2) (d' := d'.2) (xs := xs) (ys := ys) (by rw [← List.drop_drop]; exact ha.2) (by rw [← List.drop_drop]; exact hb.2) w'
    simp only [Op.eqFields, hn, ne_eq, not_false_eq_true, if_true, Sem.run_bind, ho, r1, r2, hq, Result.andThen_ok, Ty.eqB]
    cases x.eqB d.1 d'.1
    · simp
    · simpa using hr
  | .int _, _, _, h, _, _, _, _, _, _, _, _, _, _ | .bool, _, _, h, _, _, _, _, _, _, _, _, _, _ | .str, _, _, h, _, _, _, _, _, _, _, _, _, _
  | .sl _, _, _, h, _, _, _, _, _, _, _, _, _, _ | .arr .., _, _, h, _, _, _, _, _, _, _, _, _, _ | .opq _, _, _, h, _, _, _, _, _, _, _, _, _, _ => by simp [FOK] at h
end

mutual
theorem guardTy {T : TypeId} : {t : Ty} → TOK P t T → t.cmp = true → ∀ D, t.dp ≤ D → P.eqGuardType D T = false
  | .int k, h, _, D, hD | .bool, h, _, D, hD | .str, h, _, D, hD => by
    obtain ⟨D, rfl⟩ : ∃ m, D = m + 1 := ⟨D - 1, by simp [Ty.dp] at hD; omega⟩
    simp only [TOK] at h
    simp [Program.eqGuardType, h.2]
  | .sl t, _, hc, _, _ => by simp [Ty.cmp] at hc
  | .opq k, _, hc, _, _ => by simp [Ty.cmp] at hc
  | .unit, h, _, D, hD => by
    obtain ⟨D, rfl⟩ : ∃ m, D = m + 1 := ⟨D - 1, by simp [Ty.dp] at hD; omega⟩
    simp only [TOK] at h
    obtain ⟨_, _, fs, hu, hf⟩ := h
    have : fs = #[] := by cases fs; simp_all
    simp [Program.eqGuardType, hu, this]
  | .arr n t, h, hc, D, hD => by
    obtain ⟨D, rfl⟩ : ∃ m, D = m + 1 := ⟨D - 1, by simp [Ty.dp] at hD; omega⟩
    simp only [TOK] at h
    obtain ⟨_, e, hu, he⟩ := h
    simp only [Program.eqGuardType, hu]
    exact guardTy he (by simpa [Ty.cmp] using hc) D (by simp [Ty.dp] at hD; omega)
  | .pair x y, h, hc, D, hD => by
    obtain ⟨D, rfl⟩ : ∃ m, D = m + 1 := ⟨D - 1, by simp [Ty.dp] at hD; omega⟩
    simp only [TOK] at h
    obtain ⟨_, hp, fs, f, r, hu, hf, ho, hn, hx, hy⟩ := h
    simp only [Ty.cmp, Bool.and_eq_true] at hc
    simp only [Ty.dp] at hD
    simp only [Program.eqGuardType, hu, ← Array.any_toList, hf, List.any_cons, guardTy hx hc.1.1 D (by omega), Bool.and_false, Bool.false_or]
    exact guardFs hy hc.2 D (by omega)
theorem guardFs : {t : Ty} → {r : List Field} → {o : Nat} → FOK P t r o → t.cmp = true → ∀ D, t.dp ≤ D + 1 → (r.any fun f => f.name != "_" && P.eqGuardType D f.type) = false
  | .unit, r, o, h, _, D, _ => by simp only [FOK] at h; subst h; rfl
  | .pair x y, r, o, h, hc, D, hD => by
    simp only [FOK] at h
    obtain ⟨f, r', rfl, ho, hn, hx, hy⟩ := h
    simp only [Ty.cmp, Bool.and_eq_true] at hc
    simp only [Ty.dp] at hD
    simp only [List.any_cons, guardTy hx hc.1.1 D (by omega), Bool.and_false, Bool.false_or]
    exact guardFs hy hc.2 D (by omega)
  | .int _, _, _, h, _, _, _ | .bool, _, _, h, _, _, _ | .str, _, _, h, _, _, _
  | .sl _, _, _, h, _, _, _ | .arr .., _, _, h, _, _, _ | .opq _, _, _, h, _, _, _ => by simp [FOK] at h
end
end
end Go.Eng

/- The engine, part 10: binary and unary operations, conversions of numbers: what the abstract machine gives is what the machine gives. -/
namespace Go.Eng

section
variable {P : Program} {R : Type} {k : AV → Option R} {r : R}

theorem guard_int (op : BinOp) (T : TypeId) (xo yo : Operand) (j j' : IntKind) (a b : Int) (w : World) : (eqGuard op T xo yo (.int j a) (.int j' b)).run P w = .ok () w := by
  cases op <;> simp [eqGuard]
theorem guard_str (op : BinOp) (T : TypeId) (xo yo : Operand) (a b : ByteArray) (w : World) : (eqGuard op T xo yo (.string a) (.string b)).run P w = .ok () w := by
  cases op <;> simp [eqGuard]
theorem guard_bool (op : BinOp) (T : TypeId) (xo yo : Operand) (a b : Bool) (w : World) : (eqGuard op T xo yo (.bool a) (.bool b)).run P w = .ok () w := by
  cases op <;> simp [eqGuard]

theorem intK_sound {op : BinOp} {j : IntKind} {a b : Int} (h : intK op j a b k = some r) :
    ∃ z, k z = some r ∧ ∀ {E : Env} {ob : Store} {μ : Mu} (T : TypeId) (w : World), ok j a → ok j b → ∃ v, (∀ w', (binOp op T (.int j a) (.int j b)).run P w' = .ok v w') ∧ VR E ob μ w z v := by
  unfold intK at h
  split at h
  case h_1 | h_2 | h_3 => exact ⟨_, h, fun T w _ _ => ⟨_, fun w' => by simp [binOp, Op.intArith], VR.mkInt (ok_wrap _ _)⟩⟩
  case h_4 =>
    split at h
    · cases h
    · rename_i hb; exact ⟨_, h, fun T w _ _ => ⟨_, fun w' => by simp [binOp, Op.intDiv, hb], VR.mkInt (ok_wrap _ _)⟩⟩
  case h_5 =>
    split at h
    · cases h
    · rename_i hb; exact ⟨_, h, fun T w ha _ => ⟨_, fun w' => by simp [binOp, Op.intDiv, hb], VR.mkInt (ok_tmod ha)⟩⟩
  case h_6 | h_7 | h_8 | h_9 => exact ⟨_, h, fun T w _ _ => ⟨_, fun w' => by simp only [binOp, ne_eq, not_true_eq_false, if_false]; rfl, VR.mkInt (ok_wrap _ _)⟩⟩
  case h_16 => cases h
  all_goals exact ⟨_, h, fun T w _ _ => ⟨_, fun w' => by simp [binOp, Op.intCmp], VR.mkBool⟩⟩

theorem shiftK_sound {op : BinOp} {j j' : IntKind} {a b : Int} (h : shiftK op j a b k = some r) :
    ∃ z, k z = some r ∧ ∀ {E : Env} {ob : Store} {μ : Mu} (T : TypeId) (w : World), ok j a → ∃ v, (∀ w', (binOp op T (.int j a) (.int j' b)).run P w' = .ok v w') ∧ VR E ob μ w z v := by
  unfold shiftK at h
  split at h
  · split at h
    · cases h
    · rename_i hb; exact ⟨_, h, fun T w _ => ⟨.int j (bshl j a b), fun w' => by simp [binOp, Op.shift, hb, bshl], VR.mkInt (ok_wrap _ _)⟩⟩
  · split at h
    · cases h
    · rename_i hb; exact ⟨_, h, fun T w ha => ⟨.int j (bshr j a b), fun w' => by simp [binOp, Op.shift, hb, bshr], VR.mkInt (ok_fdiv _ ha)⟩⟩
  · cases h

theorem eqlK_op {op : BinOp} {e : Bool} (h : eqlK op e k = some r) : (op = .eql ∧ k (.v true .bool e) = some r) ∨ (op = .neq ∧ k (.v true .bool (!e)) = some r) := by
  unfold eqlK at h
  split at h
  · exact .inl ⟨rfl, h⟩
  · exact .inr ⟨rfl, h⟩
  · cases h

theorem VR.ref {E : Env} {ob : Store} {μ : Mu} {w : World} {x : AV} {z : OpqK} {a : Value} (hx : x.ref = some z) (h : VR E ob μ w x a) :
    (z = .ptr ∧ ∃ p, a = .pointer (some p)) ∨ (z = .fn ∧ ∃ f c, a = .func f #[] c) := by
  unfold AV.ref at hx
  split at hx
  · obtain rfl := Option.some.inj hx
    obtain ⟨T, h1, _, h3⟩ := h
    simp only [CR] at h1
    obtain ⟨_, _, _, _, _, _, _, _, rfl, h1⟩ := h1
    rw [h3 rfl] at h1
    exact .inl ⟨rfl, _, by simpa using h1⟩
  · obtain rfl := Option.some.inj hx
    obtain ⟨T, h1, _, h3⟩ := h
    simp only [CR] at h1
    obtain ⟨_, _, _, _, _, _, _, _, _, _, rfl, h1⟩ := h1
    rw [h3 rfl] at h1
    exact .inl ⟨rfl, _, by simpa using h1⟩
  · obtain rfl := Option.some.inj hx
    obtain ⟨T, h1, _, h3⟩ := h
    simp only [CR] at h1
    obtain ⟨rfl, x, es, h1, _⟩ := h1
    rw [h3 rfl] at h1
    exact .inl ⟨rfl, x, by simpa using h1⟩
  · obtain rfl := Option.some.inj hx
    obtain ⟨T, h1, _, h3⟩ := h
    simp only [CR] at h1
    obtain ⟨rfl, h1, _⟩ := h1
    rw [h3 rfl] at h1
    exact .inr ⟨rfl, _, _, by simpa using h1⟩
  · cases hx

theorem isNl_eq {x : AV} {z : OpqK} (h : x.isNl = some z) : x = .nl z := by unfold AV.isNl at h; split at h <;> simp_all

theorem nil_eq {T : TypeId} {z : OpqK} {d : TypeDesc} (hu : P.underlying T = some d) (hd : opqDesc z d = true) (hz : z ≠ .ifc) (D : Nat) (w : World) :
    (Op.equalIn (D + 1) T z.nil z.nil).run P w = .ok true w := by
  cases z <;> cases d <;> simp [opqDesc] at hd <;> simp at hz <;> simp [OpqK.nil, Op.equalIn, run_underlying hu]
theorem ref_eq {T : TypeId} {z : OpqK} {d : TypeDesc} (hu : P.underlying T = some d) (hd : opqDesc z d = true) {a : Value}
    (ha : (z = .ptr ∧ ∃ p, a = .pointer (some p)) ∨ (z = .fn ∧ ∃ f c, a = .func f #[] c)) (D : Nat) (w : World) :
    (Op.equalIn (D + 1) T a z.nil).run P w = .ok false w ∧ (Op.equalIn (D + 1) T z.nil a).run P w = .ok false w := by
  rcases ha with ⟨rfl, p, rfl⟩ | ⟨rfl, f, c, rfl⟩ <;> cases d <;> simp [opqDesc] at hd <;> simp [OpqK.nil, Op.equalIn, run_underlying hu]
/-- values that are compared by Op.equal alone -/
def ByEq (a : Value) : Prop := (∃ p, a = .pointer p) ∨ a = .nilFunc ∨ (∃ f g c, a = .func f g c) ∨ ∃ m, a = .map m
theorem byEq_run {op : BinOp} {T : TypeId} {a b : Value} {e : Bool} {w : World} (ha : ByEq a) (hb : ByEq b) (h : (Op.equal T a b).run P w = .ok e w) (xo yo : Operand)
    (hop : op = .eql ∨ op = .neq) : (do eqGuard op T xo yo a b; binOp op T a b : Sem Value).run P w = .ok (.bool (if op = .eql then e else !e)) w := by
  have hg : (eqGuard op T xo yo a b).run P w = .ok () w := by
    rcases ha with ⟨p, rfl⟩ | rfl | ⟨f, g, c, rfl⟩ | ⟨m, rfl⟩ <;> rcases hb with ⟨p', rfl⟩ | rfl | ⟨f', g', c', rfl⟩ | ⟨m', rfl⟩ <;> rcases hop with rfl | rfl <;> simp [eqGuard]
  have h1 : binOp .eql T a b = (do pure (.bool (← Op.equal T a b))) := by
    rcases ha with ⟨p, rfl⟩ | rfl | ⟨f, g, c, rfl⟩ | ⟨m, rfl⟩ <;> rcases hb with ⟨p', rfl⟩ | rfl | ⟨f', g', c', rfl⟩ | ⟨m', rfl⟩ <;> rfl
  have h2 : binOp .neq T a b = (do pure (.bool (!(← Op.equal T a b)))) := by
    rcases ha with ⟨p, rfl⟩ | rfl | ⟨f, g, c, rfl⟩ | ⟨m, rfl⟩ <;> rcases hb with ⟨p', rfl⟩ | rfl | ⟨f', g', c', rfl⟩ | ⟨m', rfl⟩ <;> rfl
  rcases hop with rfl | rfl
  · simp only [Sem.run_bind, hg, Result.andThen_ok, h1, h, Sem.run_pure, if_true]
  · simp only [Sem.run_bind, hg, Result.andThen_ok, h2, h, Sem.run_pure]; rfl
theorem byEq_nil (z : OpqK) (hz : z ≠ .ifc) : ByEq z.nil := by
  cases z <;> simp [OpqK.nil, ByEq] at hz ⊢
theorem byEq_ref {z : OpqK} {a : Value} (ha : (z = .ptr ∧ ∃ p, a = .pointer (some p)) ∨ (z = .fn ∧ ∃ f c, a = .func f #[] c)) : ByEq a ∧ z ≠ .ifc := by
  rcases ha with ⟨rfl, p, rfl⟩ | ⟨rfl, f, c, rfl⟩ <;> simp [ByEq]

theorem refK_sound {tt : Option Ty} {op : BinOp} {x y : AV} {T : TypeId} (htt : ∀ t, tt = some t → TOK P t T) (h : refK tt op x y k = some r) :
    ∃ z, k z = some r ∧ ∀ {E : Env} {ob : Store} {μ : Mu} {w : World} {a b : Value} (xo yo : Operand), VR E ob μ w x a → VR E ob μ w y b →
      ∃ v, (∀ w', (do eqGuard op T xo yo a b; binOp op T a b : Sem Value).run P w' = .ok v w') ∧ VR E ob μ w z v := by
  unfold refK at h
  cases hx : x.isNl with
  | some z =>
    cases hy : y.isNl with
    | some z' =>
      simp only [hx, hy] at h
      split at h
      · rename_i hc
        obtain ⟨ht, rfl, hz⟩ := hc
        have ht := htt _ ht
        simp only [TOK] at ht
        obtain ⟨_, d, hu, hd⟩ := ht
        obtain rfl := isNl_eq hx
        obtain rfl := isNl_eq hy
        rcases eqlK_op h with ⟨rfl, hk⟩ | ⟨rfl, hk⟩
        all_goals
          refine ⟨_, hk, fun xo yo h1 h2 => ?_⟩
          obtain rfl := h1.nl
          obtain rfl := h2.nl
          exact ⟨_, fun w' => byEq_run (byEq_nil _ hz) (byEq_nil _ hz) (nil_eq hu hd hz 9999 _) xo yo (by simp), VR.mkBool⟩
      · cases h
    | none =>
      simp only [hx, hy] at h
      split at h
      · rename_i hc
        obtain ⟨ht, hr⟩ := hc
        have ht := htt _ ht
        simp only [TOK] at ht
        obtain ⟨_, d, hu, hd⟩ := ht
        obtain rfl := isNl_eq hx
        rcases eqlK_op h with ⟨rfl, hk⟩ | ⟨rfl, hk⟩
        all_goals
          refine ⟨_, hk, fun xo yo h1 h2 => ?_⟩
          obtain rfl := h1.nl
          have hb := byEq_ref (h2.ref hr)
          exact ⟨_, fun w' => byEq_run (byEq_nil _ hb.2) hb.1 (ref_eq hu hd (h2.ref hr) 9999 _).2 xo yo (by simp), VR.mkBool⟩
      · cases h
  | none =>
    cases hy : y.isNl with
    | some z =>
      simp only [hx, hy] at h
      split at h
      · rename_i hc
        obtain ⟨ht, hr⟩ := hc
        have ht := htt _ ht
        simp only [TOK] at ht
        obtain ⟨_, d, hu, hd⟩ := ht
        obtain rfl := isNl_eq hy
        rcases eqlK_op h with ⟨rfl, hk⟩ | ⟨rfl, hk⟩
        all_goals
          refine ⟨_, hk, fun xo yo h1 h2 => ?_⟩
          obtain rfl := h2.nl
          have hb := byEq_ref (h1.ref hr)
          exact ⟨_, fun w' => byEq_run hb.1 (byEq_nil _ hb.2) (ref_eq hu hd (h1.ref hr) 9999 _).1 xo yo (by simp), VR.mkBool⟩
      · cases h
    | none => simp [hx, hy] at h

theorem binK_sound {tt : Option Ty} {op : BinOp} {x y : AV} {T : TypeId} (htt : ∀ t, tt = some t → TOK P t T) (hd : 64 ≤ P.depth) (h : binK tt op x y k = some r) :
    ∃ z, k z = some r ∧ ∀ {E : Env} {ob : Store} {μ : Mu} {w : World} {a b : Value} (xo yo : Operand), VR E ob μ w x a → VR E ob μ w y b →
      ∃ v, (∀ w', (do eqGuard op T xo yo a b; binOp op T a b : Sem Value).run P w' = .ok v w') ∧ VR E ob μ w z v := by
  unfold binK at h
  split at h
  · rename_i g j a g' j' b
    split at h
    · rename_i hs
      obtain ⟨z, hz, hs⟩ := shiftK_sound (P := P) (j' := j') h
      refine ⟨z, hz, fun xo yo h1 h2 => ?_⟩
      obtain ⟨rfl, o1⟩ := h1.int
      obtain ⟨rfl, o2⟩ := h2.int
      obtain ⟨v, e1, e2⟩ := hs T _ o1
      exact ⟨v, fun w' => by simp only [Sem.run_bind, guard_int, Result.andThen_ok]; exact e1 w', e2⟩
    · split at h
      · rename_i hj; subst hj
        obtain ⟨z, hz, hs⟩ := intK_sound (P := P) h
        refine ⟨z, hz, fun xo yo h1 h2 => ?_⟩
        obtain ⟨rfl, o1⟩ := h1.int
        obtain ⟨rfl, o2⟩ := h2.int
        obtain ⟨v, e1, e2⟩ := hs T _ o1 o2
        exact ⟨v, fun w' => by simp only [Sem.run_bind, guard_int, Result.andThen_ok]; exact e1 w', e2⟩
      · cases h
  · rcases eqlK_op h with ⟨rfl, hz⟩ | ⟨rfl, hz⟩
    all_goals
      refine ⟨_, hz, fun xo yo h1 h2 => ?_⟩
      obtain rfl := h1.str
      obtain rfl := h2.str
      exact ⟨_, fun w' => by simp only [Sem.run_bind, guard_str, Result.andThen_ok]; simp [binOp, Op.stringOp], VR.mkBool⟩
  · split at h
    · rename_i htb
      have ht := htt _ htb
      simp only [TOK] at ht
      rcases eqlK_op h with ⟨rfl, hz⟩ | ⟨rfl, hz⟩
      all_goals
        refine ⟨_, hz, fun xo yo h1 h2 => ?_⟩
        obtain rfl := h1.bool
        obtain rfl := h2.bool
        exact ⟨_, fun w' => by simp only [Sem.run_bind, guard_bool, Result.andThen_ok]; simp [binOp, Op.equal, Op.maxDepth, run_equalIn_bool' _ _ _ _ _ ht.2], VR.mkBool⟩
    · cases h
  · split at h
    · rename_i ht'; subst ht'
      split at h
      · rename_i g g' t b a n1 n2 n3 hc
        obtain ⟨htt', hcmp, hdp⟩ := hc
        have ht := htt _ htt'
        rcases eqlK_op h with ⟨rfl, hz⟩ | ⟨rfl, hz⟩
        all_goals
          refine ⟨_, hz, fun {E ob μ w va vb} xo yo h1 h2 => ?_⟩
          obtain ⟨r1, s1⟩ := VR.v_iff.1 h1
          obtain ⟨r2, s2⟩ := VR.v_iff.1 h2
          have hq := fun w' => eqIn ht hcmp 10000 (by omega) r1 s1 r2 s2 w'
          cases hag : t.isAgg with
          | true =>
            obtain ⟨ca, rfl⟩ := s1.1 hag
            obtain ⟨cb, rfl⟩ := s2.1 hag
            first
            | exact ⟨.bool (t.eqB a b), fun w' => by simp only [Sem.run_bind, run_eqGuard_agg _ _ _ _ _ _ _ (guardTy ht hcmp P.depth (by omega)), Result.andThen_ok]; rw [run_eql_struct, hq]; rfl, VR.mkBool⟩
            | exact ⟨.bool (!(t.eqB a b)), fun w' => by simp only [Sem.run_bind, run_eqGuard_agg _ _ _ _ _ _ _ (guardTy ht hcmp P.depth (by omega)), Result.andThen_ok]; rw [run_neq_struct, hq]; rfl, VR.mkBool⟩
          | false =>
            cases t with
            | int j => exact (n1 _ _ _ _ rfl HEq.rfl rfl HEq.rfl).elim
            | bool => exact (n3 _ _ rfl HEq.rfl rfl HEq.rfl).elim
            | str => exact (n2 _ _ rfl HEq.rfl rfl HEq.rfl).elim
            | sl t => simp [Ty.cmp] at hcmp
            | opq z => simp [Ty.cmp] at hcmp
            | unit | arr | pair => simp [Ty.isAgg] at hag
      · cases h
    · cases h
  · exact refK_sound htt h
end
end Go.Eng

/- The engine, part 11: parts of data, by path. -/
namespace Go.Eng

theorem R.weaken {w : World} {S S' : Nat → Prop} (hs : ∀ b, S b → S' b) {t : Ty} {d : t.D} {cs : List Value} (h : R w S t d cs) : R w S' t d cs :=
  h.stay (Agree.refl S w) (fun b hb _ => hs b hb) (Nat.le_refl _)
theorem Sb.and {E : Env} {ob : Store} {μ : Mu} {g g' : Bool} {b : Nat} (h : Sb E ob μ g b) : Sb E ob μ (g && g') b := by
  cases g
  · exact h
  · cases g'
    · exact h.weak
    · exact h
theorem Sb.and' {E : Env} {ob : Store} {μ : Mu} {g g' : Bool} {b : Nat} (h : Sb E ob μ g' b) : Sb E ob μ (g && g') b := by
  cases g
  · exact h.weak
  · simpa using h

theorem mul_part {i n s : Nat} (h : i < n) : i * s + s ≤ n * s := by
  have : (i + 1) * s ≤ n * s := Nat.mul_le_mul_right s h
  rw [Nat.succ_mul] at this; omega

section
variable {Rr : Type} {r : Rr}

theorem gets_sound : {t : Ty} → {d : t.D} → {p : Path} → {k : (t' : Ty) → t'.D → Option Rr} → gets t d p k = some r →
    ∃ t' d' o, k t' d' = some r ∧ pathOff t p = some (o, t') ∧ o + t'.size ≤ t.size ∧
      ∀ {w : World} {S : Nat → Prop} {cs : List Value}, R w S t d cs → R w S t' d' ((cs.drop o).take t'.size)
  | t, d, [], k, h => by
    rw [gets.eq_1] at h
    refine ⟨t, d, 0, h, by rw [pathOff.eq_1], by omega, fun hr => ?_⟩
    rw [List.drop_zero, List.take_of_length_le (by rw [hr.len]; exact Nat.le_refl _)]; exact hr
  | .pair a b, d, .fld 0 :: p, k, h => by
    rw [gets.eq_2] at h
    obtain ⟨t', d', o, h1, h2, h3, h4⟩ := gets_sound h
    refine ⟨t', d', o, h1, by rw [pathOff.eq_2]; exact h2, by simp only [Ty.size]; omega, fun {w S cs} hr => ?_⟩
    simp only [R] at hr
    have := h4 hr.1
    rwa [List.drop_take, List.take_take, Nat.min_eq_left (by omega)] at this
  | .pair a b, d, .fld (i + 1) :: p, k, h => by
    rw [gets.eq_3] at h
    obtain ⟨t', d', o, h1, h2, h3, h4⟩ := gets_sound h
    refine ⟨t', d', a.size + o, h1, by rw [pathOff.eq_3, h2]; rfl, by simp only [Ty.size]; omega, fun {w S cs} hr => ?_⟩
    simp only [R] at hr
    have := h4 hr.2
    rwa [List.drop_drop] at this
  | .arr n t, l, .idx i :: p, k, h => by
    rw [gets.eq_4] at h
    split at h
    · rename_i hi
      obtain ⟨t', d', o, h1, h2, h3, h4⟩ := gets_sound h
      refine ⟨t', d', i * t.size + o, h1, by rw [pathOff.eq_4, h2]; rfl, ?_, fun {w S cs} hr => ?_⟩
      · have := mul_part (s := t.size) hi
        simp only [Ty.size]; omega
      · simp only [R] at hr
        have hil : i < l.length := by rw [hr.1]; exact hi
        have := h4 (by simpa [List.getD, List.getElem?_eq_getElem hil] using hr.2.2 i hil)
        rwa [List.drop_take, List.take_take, List.drop_drop, Nat.min_eq_left (by omega)] at this
    · cases h
  | .int _, _, _ :: _, _, h | .bool, _, _ :: _, _, h | .str, _, _ :: _, _, h | .sl _, _, _ :: _, _, h | .unit, _, _ :: _, _, h | .opq _, _, _ :: _, _, h
  | .pair .., _, .idx _ :: _, _, h | .arr .., _, .fld _ :: _, _, h => by simp [gets] at h

theorem upd_get {cs es : List Value} {p e : Nat} (he : es.length = e) (hp : p + e ≤ cs.length) (i : Nat) :
    (cs.take p ++ es ++ cs.drop (p + e))[i]? = if i < p then cs[i]? else if i < p + e then es[i - p]? else cs[i]? := by
  rw [List.append_assoc]
  by_cases h1 : i < p
  · rw [if_pos h1, List.getElem?_append_left (by simp; omega), List.getElem?_take, if_pos h1]
  · rw [if_neg h1, List.getElem?_append_right (by simp; omega)]
    have hl : (cs.take p).length = p := by simp; omega
    rw [hl]
    by_cases h2 : i < p + e
    · rw [if_pos h2, List.getElem?_append_left (by omega)]
    · rw [if_neg h2, List.getElem?_append_right (by omega), List.getElem?_drop, he]
      congr 1; omega

/-- a stretch q, q + s of what was updated at p, p + e, around the new part -/
theorem upd_around {cs es : List Value} {p e q s : Nat} (he : es.length = e) (hp : p + e ≤ cs.length) (hq : q ≤ p) (hs : p + e ≤ q + s) (hc : q + s ≤ cs.length) :
    ((cs.take p ++ es ++ cs.drop (p + e)).drop q).take s = ((cs.drop q).take s).take (p - q) ++ es ++ ((cs.drop q).take s).drop (p - q + e) := by
  apply List.ext_getElem?
  intro i
  have hl : ((cs.drop q).take s).length = s := by simp; omega
  rw [List.getElem?_take, List.getElem?_drop, upd_get he hp, upd_get he (by rw [hl]; omega)]
  simp only [List.getElem?_take, List.getElem?_drop]
  by_cases h1 : i < s
  · simp only [h1, if_true]
    by_cases h2 : q + i < p
    · rw [if_pos h2, if_pos (show i < p - q by omega)]
    · rw [if_neg h2, if_neg (show ¬ i < p - q by omega)]
      by_cases h3 : q + i < p + e
      · rw [if_pos h3, if_pos (show i < p - q + e by omega)]; congr 1; omega
      · rw [if_neg h3, if_neg (show ¬ i < p - q + e by omega)]
  · simp only [h1, if_false]
    rw [if_neg (show ¬ i < p - q by omega), if_neg (show ¬ i < p - q + e by omega)]
/-- a stretch that the update does not touch -/
theorem upd_apart {cs es : List Value} {p e q s : Nat} (he : es.length = e) (hp : p + e ≤ cs.length) (h : q + s ≤ p ∨ p + e ≤ q) :
    ((cs.take p ++ es ++ cs.drop (p + e)).drop q).take s = (cs.drop q).take s := by
  apply List.ext_getElem?
  intro i
  simp only [List.getElem?_take, List.getElem?_drop, upd_get he hp]
  by_cases h1 : i < s
  · simp only [h1, if_true]
    by_cases h2 : q + i < p
    · rw [if_pos h2]
    · rw [if_neg h2, if_neg (by omega)]
  · simp only [h1, if_false]
theorem upd_len {cs es : List Value} {p e : Nat} (he : es.length = e) (hp : p + e ≤ cs.length) : (cs.take p ++ es ++ cs.drop (p + e)).length = cs.length := by
  simp only [List.length_append, List.length_take, List.length_drop, he]; omega
theorem upd_mid {cs es : List Value} {p e : Nat} (he : es.length = e) (hp : p + e ≤ cs.length) : ((cs.take p ++ es ++ cs.drop (p + e)).drop p).take e = es := by
  rw [upd_around he hp (Nat.le_refl _) (Nat.le_refl _) hp, Nat.sub_self, Nat.zero_add, List.take_zero, List.nil_append, List.drop_eq_nil_of_le (by simp; omega), List.append_nil]

theorem sets_sound : {t : Ty} → {d : t.D} → {p : Path} → {t' : Ty} → {d' : t'.D} → {k : t.D → Option Rr} → sets t d p t' d' k = some r →
    ∃ d'' o, k d'' = some r ∧ pathOff t p = some (o, t') ∧ o + t'.size ≤ t.size ∧
      ∀ {w : World} {S : Nat → Prop} {cs es : List Value}, R w S t d cs → R w S t' d' es → R w S t d'' (cs.take o ++ es ++ cs.drop (o + t'.size))
  | t, d, [], t', d', k, h => by
    rw [sets.eq_1] at h
    split at h
    · rename_i ht; subst ht
      refine ⟨d', 0, h, by rw [pathOff.eq_1], by omega, fun {w S cs es} h1 h2 => ?_⟩
      have : cs.drop (0 + t'.size) = [] := List.drop_eq_nil_of_le (by rw [h1.len]; omega)
      rw [this]; simpa using h2
    · cases h
  | .pair a b, d, .fld 0 :: p, t', d', k, h => by
    rw [sets.eq_2] at h
    obtain ⟨d'', o, h1, h2, h3, h4⟩ := sets_sound h
    refine ⟨_, o, h1, by rw [pathOff.eq_2]; exact h2, by simp only [Ty.size]; omega, fun {w S cs es} hr he => ?_⟩
    have hl := hr.len
    simp only [R, Ty.size] at hr hl ⊢
    have hel := he.len
    have := h4 hr.1 he
    constructor
    · have e := upd_around (cs := cs) (es := es) (p := o) (q := 0) (s := a.size) hel (by omega) (by omega) (by omega) (by omega)
      simp only [List.drop_zero, Nat.sub_zero] at e
      rw [e]; exact this
    · have e := upd_apart (cs := cs) (es := es) (p := o) (q := a.size) (s := b.size) hel (by omega) (.inr (by omega))
      rw [List.take_of_length_le (l := (cs.take o ++ es ++ cs.drop (o + t'.size)).drop a.size) (by rw [List.length_drop, upd_len hel (by omega)]; omega), List.take_of_length_le (l := cs.drop a.size) (by rw [List.length_drop]; omega)] at e
      rw [e]; exact hr.2
  | .pair a b, d, .fld (i + 1) :: p, t', d', k, h => by
    rw [sets.eq_3] at h
    obtain ⟨d'', o, h1, h2, h3, h4⟩ := sets_sound h
    refine ⟨_, a.size + o, h1, by rw [pathOff.eq_3, h2]; rfl, by simp only [Ty.size]; omega, fun {w S cs es} hr he => ?_⟩
    have hl := hr.len
    simp only [R, Ty.size] at hr hl ⊢
    have hel := he.len
    have := h4 hr.2 he
    constructor
    · have e := upd_apart (cs := cs) (es := es) (p := a.size + o) (q := 0) (s := a.size) hel (by omega) (.inl (by omega))
      simp only [List.drop_zero] at e
      rw [e]; exact hr.1
    · have e := upd_around (cs := cs) (es := es) (p := a.size + o) (q := a.size) (s := b.size) hel (by omega) (by omega) (by omega) (by omega)
      rw [List.take_of_length_le (l := (cs.take (a.size + o) ++ es ++ cs.drop (a.size + o + t'.size)).drop a.size) (by rw [List.length_drop, upd_len hel (by omega)]; omega), List.take_of_length_le (l := cs.drop a.size) (by rw [List.length_drop]; omega), Nat.add_sub_cancel_left] at e
      rw [e]; exact this
  | .arr n t, l, .idx i :: p, t', d', k, h => by
    rw [sets.eq_4] at h
    split at h
    · rename_i hi
      obtain ⟨d'', o, h1, h2, h3, h4⟩ := sets_sound h
      have hm := mul_part (s := t.size) hi
      refine ⟨_, i * t.size + o, h1, by rw [pathOff.eq_4, h2]; rfl, by simp only [Ty.size]; omega, fun {w S cs es} hr he => ?_⟩
      simp only [R] at hr ⊢
      obtain ⟨g1, g2, g3⟩ := hr
      have hel := he.len
      have hil : i < l.length := by rw [g1]; exact hi
      refine ⟨by simpa using g1, by rw [upd_len hel (by omega)]; exact g2, fun j hj => ?_⟩
      simp only [List.length_set] at hj
      by_cases hji : j = i
      · subst hji
        rw [List.getElem_set_self]
        have := h4 (by simpa [List.getD, List.getElem?_eq_getElem hil] using g3 j hil) he
        rw [upd_around hel (by omega) (by omega) (by omega) (by omega), Nat.add_sub_cancel_left]
        exact this
      · rw [List.getElem_set_ne (Ne.symm hji)]
        rw [upd_apart hel (by omega) (by
          rcases Nat.lt_or_gt_of_ne hji with hlt | hgt
          · have := mul_part (s := t.size) hlt; omega
          · have := mul_part (s := t.size) hgt; omega)]
        exact g3 j (by omega)
    · cases h
  | .int _, _, _ :: _, _, _, _, h | .bool, _, _ :: _, _, _, _, h | .str, _, _ :: _, _, _, _, h | .sl _, _, _ :: _, _, _, _, h | .unit, _, _ :: _, _, _, _, h | .opq _, _, _ :: _, _, _, _, h
  | .pair .., _, .idx _ :: _, _, _, _, h | .arr .., _, .fld _ :: _, _, _, _, h => by simp [sets] at h
end
end Go.Eng

/- The engine, part 12: operations that only read. -/
namespace Go.Eng

structure CtxT (P : Program) (C : Ctx) : Prop where
  tt : ∀ T t, C.TT T = some t → TOK P t T
  eb : ∀ T t e, C.TT T = some t → P.underlying T = some (.slice e) → (P.info? e).map (·.bytes) = some (C.EB T)
  depth : 64 ≤ P.depth
  mixed : P.follows .mixedOrders = true

section
variable {P : Program} {E : Env} {ob : Store} {μ : Mu} {w : World}

theorem fits_of : {x : AV} → {t T : Ty} → {cs : List Value} → x.fits ob t = true → CR E ob μ w x T cs → t.size = T.size ∧ t.isAgg = T.isAgg ∧ ∀ v ∈ cs, v.oneCell' = true
  | .v g t0 d, t, T, cs, hf, h => by
    simp only [AV.fits, decide_eq_true_eq] at hf
    simp only [CR] at h
    obtain ⟨rfl, h⟩ := h
    subst hf
    exact ⟨rfl, rfl, h.one⟩
  | .sl _, t, T, cs, hf, h => by
    cases t <;> (try (simp [AV.fits] at hf; done))
    simp only [CR] at h; obtain ⟨_, _, _, _, rfl, rfl⟩ := h; simp [Ty.size, Ty.isAgg, Value.oneCell']
  | .sub .., t, T, cs, hf, h => by
    cases t <;> (try (simp [AV.fits] at hf; done))
    simp only [CR] at h; obtain ⟨_, _, _, _, _, _, rfl, _, _, _, _, rfl⟩ := h; simp [Ty.size, Ty.isAgg, Value.oneCell']
  | .bs .., t, T, cs, hf, h => by
    cases t <;> (try (simp [AV.fits] at hf; done))
    simp only [CR] at h; obtain ⟨_, _, _, _, _, _, _, _, _, rfl, rfl⟩ := h; simp [Ty.size, Ty.isAgg, Value.oneCell']
  | .pe .., t, T, cs, hf, h => by
    cases t <;> (try (simp [AV.fits] at hf; done))
    simp only [CR] at h; obtain ⟨_, _, _, _, _, _, _, _, _, _, rfl, rfl⟩ := h; simp [Ty.size, Ty.isAgg, Value.oneCell']
  | .pb .., t, T, cs, hf, h => by
    cases t <;> (try (simp [AV.fits] at hf; done))
    simp only [CR] at h; obtain ⟨_, _, _, _, _, _, _, _, rfl, rfl⟩ := h; simp [Ty.size, Ty.isAgg, Value.oneCell']
  | .pr .., t, T, cs, hf, h => by
    cases t <;> (try (simp [AV.fits] at hf; done))
    simp only [CR] at h; obtain ⟨rfl, _, _, rfl, _⟩ := h; simp [Ty.size, Ty.isAgg, Value.oneCell']
  | .nl k, t, T, cs, hf, h => by
    cases t <;> simp [AV.fits] at hf
    simp only [CR] at h; obtain ⟨rfl, rfl⟩ := h
    cases k <;> simp [Ty.size, Ty.isAgg, OpqK.nil, Value.oneCell']
  | .nils, t, T, cs, hf, h => by
    cases t <;> simp [AV.fits] at hf
    simp only [CR] at h; obtain ⟨⟨_, rfl⟩, rfl⟩ := h; simp [Ty.size, Ty.isAgg, Value.oneCell']
  | .clo .., t, T, cs, hf, h => by
    cases t <;> (try (simp [AV.fits] at hf; done))
    simp only [CR] at h; obtain ⟨rfl, rfl, _⟩ := h; simp [Ty.size, Ty.isAgg, Value.oneCell']
  | .nil, t, T, cs, hf, h => by
    cases t <;> simp [AV.fits] at hf
    simp only [CR] at h; obtain ⟨rfl, rfl⟩ := h; simp [Ty.size, Ty.isAgg]
  | .cons x y, t, T, cs, hf, h => by
    cases t <;> simp [AV.fits] at hf
    simp only [CR] at h
    obtain ⟨a, b, rfl, h1, h2⟩ := h
    have e1 := fits_of hf.1 h1
    have e2 := fits_of hf.2 h2
    refine ⟨by simp only [Ty.size]; omega, rfl, fun v hv => ?_⟩
    rw [← List.take_append_drop a.size cs, List.mem_append] at hv
    exact hv.elim (e1.2.2 v) (e2.2.2 v)
  | .ag l, t, T, cs, hf, h => by
    cases t <;> simp [AV.fits] at hf
    simp only [CR] at h
    exact fits_of hf h.2
  | .tup _, t, T, cs, hf, h => by simp [AV.fits] at hf
  | .dead, t, T, cs, hf, h => by simp [AV.fits] at hf

theorem fits_ptr {ob : Store} {x : AV} {t : Ty} {z : OpqK} (hx : x.ref = some z) (hf : x.fits ob t = true) : t = .opq z := by
  unfold AV.ref at hx
  split at hx <;> simp at hx <;> subst hx <;> cases t <;> (try (simp [AV.fits] at hf; done)) <;> rename_i k <;> cases k <;> simp [AV.fits] at hf ⊢

/-- what fits a type may be read as of that type -/
theorem CR.retype : {x : AV} → {t T : Ty} → {cs : List Value} → x.fits ob t = true → CR E ob μ w x T cs → CR E ob μ w x t cs
  | .v g t0 d, t, T, cs, hf, h => by
    simp only [AV.fits, decide_eq_true_eq] at hf
    simp only [CR] at h ⊢
    exact ⟨hf, h.2⟩
  | .sl n, t, T, cs, hf, h => by
    cases t <;> (try (simp [AV.fits] at hf; done))
    simp only [CR] at h ⊢; obtain ⟨g, t, l, a1, rfl, a2⟩ := h
    simp [AV.fits, a1] at hf
    exact ⟨g, t, l, a1, by rw [hf], a2⟩
  | .sub n _ _, t, T, cs, hf, h => by
    cases t <;> (try (simp [AV.fits] at hf; done))
    simp only [CR] at h ⊢; obtain ⟨g, t, l, o, c, a1, rfl, a2⟩ := h
    simp [AV.fits, a1] at hf
    exact ⟨g, t, l, o, c, a1, by rw [hf], a2⟩
  | .bs n p, t, T, cs, hf, h => by
    cases t <;> (try (simp [AV.fits] at hf; done))
    simp only [CR] at h ⊢; obtain ⟨T', x, o, m, t, y, a1, a2, a3, rfl, a4⟩ := h
    simp [AV.fits, a1, a2] at hf
    exact ⟨T', x, o, m, t, y, a1, a2, a3, by rw [hf], a4⟩
  | .pe .., t, T, cs, hf, h => by
    simp only [CR] at h ⊢; obtain ⟨g, t, l, o, t', x, a1, a2, a3, a4, rfl, a5⟩ := h
    exact ⟨g, t, l, o, t', x, a1, a2, a3, a4, fits_ptr rfl hf, a5⟩
  | .pb .., t, T, cs, hf, h => by
    simp only [CR] at h ⊢; obtain ⟨T', a, o, t', x, a1, a2, a3, rfl, a5⟩ := h
    exact ⟨T', a, o, t', x, a1, a2, a3, fits_ptr rfl hf, a5⟩
  | .pr .., t, T, cs, hf, h => by
    simp only [CR] at h ⊢; exact ⟨fits_ptr rfl hf, h.2⟩
  | .nl k, t, T, cs, hf, h => by
    cases t <;> simp [AV.fits] at hf
    subst hf
    simp only [CR] at h ⊢; exact ⟨trivial, h.2⟩
  | .nils, t, T, cs, hf, h => by
    cases t <;> simp [AV.fits] at hf
    simp only [CR] at h ⊢; exact ⟨⟨_, rfl⟩, h.2⟩
  | .clo .., t, T, cs, hf, h => by
    simp only [CR] at h ⊢; exact ⟨fits_ptr rfl hf, h.2⟩
  | .nil, t, T, cs, hf, h => by
    cases t <;> simp [AV.fits] at hf
    simp only [CR] at h ⊢; exact ⟨trivial, h.2⟩
  | .cons x y, t, T, cs, hf, h => by
    cases t <;> simp [AV.fits] at hf
    simp only [CR] at h ⊢
    obtain ⟨a, b, rfl, h1, h2⟩ := h
    have e1 := (fits_of hf.1 h1).1
    exact ⟨_, _, rfl, by rw [e1]; exact h1.retype hf.1, by rw [e1]; exact h2.retype hf.2⟩
  | .ag l, t, T, cs, hf, h => by
    cases t <;> simp [AV.fits] at hf
    simp only [CR] at h ⊢
    exact ⟨⟨_, _, rfl⟩, h.2.retype hf⟩
  | .tup _, t, T, cs, hf, h => by simp [AV.fits] at hf
  | .dead, t, T, cs, hf, h => by simp [AV.fits] at hf

/-- a value with the cells of x -/
theorem VR.of_cells {x : AV} {T : Ty} {v : Value} (h : CR E ob μ w x T v.cells.toList) (hs : Shape T v) : VR E ob μ w x v := by
  cases x with
  | dead => trivial
  | tup l => simp only [CR] at h
  | _ => exact ⟨T, h, hs⟩
theorem VR.cells {x : AV} {v : Value} {t : Ty} (hf : x.fits ob t = true) (h : VR E ob μ w x v) : ∃ T, CR E ob μ w x T v.cells.toList ∧ Shape T v ∧ t.size = T.size ∧ t.isAgg = T.isAgg := by
  have key : SR E ob μ w x v → ∃ T, CR E ob μ w x T v.cells.toList ∧ Shape T v ∧ t.size = T.size ∧ t.isAgg = T.isAgg := fun ⟨T, h1, h2⟩ =>
    ⟨T, h1, h2, (fits_of hf h1).1, (fits_of hf h1).2.1⟩
  cases x with
  | dead => simp [AV.fits] at hf
  | tup l => simp [AV.fits] at hf
  | _ => exact key h

theorem Shape.of {t T : Ty} (h : t.isAgg = T.isAgg) {v : Value} (hs : Shape t v) : Shape T v := ⟨fun ha => hs.1 (by rw [h]; exact ha), fun ha => hs.2 (by rw [h]; exact ha)⟩

theorem nth_sound : {l : AV} → {T : Ty} → {cs : List Value} → {i : Nat} → {tf : Ty} → CR E ob μ w l T cs → T.fldTy i = some tf →
    ∃ o, pathOff T [.fld i] = some (o, tf) ∧ o + tf.size ≤ T.size ∧ CR E ob μ w (l.nth i) tf ((cs.drop o).take tf.size)
  | .cons x y, T, cs, i, tf, h, hT => by
    simp only [CR] at h
    obtain ⟨a, b, rfl, h1, h2⟩ := h
    cases i with
    | zero =>
      simp only [Ty.fldTy, Option.some.injEq] at hT
      subst hT
      exact ⟨0, by rw [pathOff.eq_2, pathOff.eq_1], by simp only [Ty.size]; omega, by simpa [AV.nth] using h1⟩
    | succ i =>
      simp only [Ty.fldTy] at hT
      obtain ⟨o, p1, p2, p3⟩ := nth_sound h2 hT
      refine ⟨a.size + o, by rw [pathOff.eq_3, p1]; rfl, by simp only [Ty.size]; omega, ?_⟩
      rw [List.drop_drop] at p3
      simpa [AV.nth] using p3
  | .v g t d, T, cs, i, tf, h, hT => by
    simp only [CR] at h
    obtain ⟨rfl, h⟩ := h
    have key : ∀ (t : Ty) (i : Nat) tf (d : t.D) cs, t.fldTy i = some tf → R w (Sb E ob μ g) t d cs → ∃ o, pathOff t [.fld i] = some (o, tf) ∧ o + tf.size ≤ t.size ∧ cs.length = t.size := by
      intro t
      induction t with
      | pair a b _ ihb =>
        intro i tf d cs hi hr
        have hl := hr.len
        simp only [R] at hr
        cases i with
        | zero =>
          simp only [Ty.fldTy, Option.some.injEq] at hi
          subst hi
          exact ⟨0, by rw [pathOff.eq_2, pathOff.eq_1], by simp only [Ty.size]; omega, hl⟩
        | succ i =>
          simp only [Ty.fldTy] at hi
          obtain ⟨o, h1, h2, h3⟩ := ihb i tf _ _ hi hr.2
          exact ⟨a.size + o, by rw [pathOff.eq_3, h1]; rfl, by simp only [Ty.size]; omega, hl⟩
      | _ => intro i tf d cs hi; simp [Ty.fldTy] at hi
    obtain ⟨o, h1, h2, h3⟩ := key t i tf d cs hT h
    exact ⟨o, h1, h2, by simp only [AV.nth, CR, List.length_take, List.length_drop]; omega⟩
  | .ag l, T, cs, i, tf, h, hT => by
    simp only [CR] at h
    obtain ⟨o, h1, h2, _⟩ := nth_sound h.2 hT
    have := h.2.len
    exact ⟨o, h1, h2, by simp only [AV.nth, CR, List.length_take, List.length_drop]; omega⟩
  | .dead, T, cs, i, tf, h, hT => by
    simp only [CR] at h
    have key : ∀ (t : Ty) (i : Nat) tf, t.fldTy i = some tf → ∃ o, pathOff t [.fld i] = some (o, tf) ∧ o + tf.size ≤ t.size := by
      intro t
      induction t with
      | pair a b _ ihb =>
        intro i tf hi
        cases i with
        | zero =>
          simp only [Ty.fldTy, Option.some.injEq] at hi
          subst hi
          exact ⟨0, by rw [pathOff.eq_2, pathOff.eq_1], by simp only [Ty.size]; omega⟩
        | succ i =>
          simp only [Ty.fldTy] at hi
          obtain ⟨o, h1, h2⟩ := ihb i tf hi
          exact ⟨a.size + o, by rw [pathOff.eq_3, h1]; rfl, by simp only [Ty.size]; omega⟩
      | _ => intro i tf hi; simp [Ty.fldTy] at hi
    obtain ⟨o, h1, h2⟩ := key T i tf hT
    exact ⟨o, h1, h2, by simp only [AV.nth, CR, List.length_take, List.length_drop]; omega⟩
  | .nil, T, cs, i, tf, h, hT => by simp only [CR] at h; obtain ⟨rfl, _⟩ := h; simp [Ty.fldTy] at hT
  | .sl _, T, cs, i, tf, h, hT => by simp only [CR] at h; obtain ⟨_, _, _, _, rfl, _⟩ := h; simp [Ty.fldTy] at hT
  | .sub .., T, cs, i, tf, h, hT => by simp only [CR] at h; obtain ⟨_, _, _, _, _, _, rfl, _⟩ := h; simp [Ty.fldTy] at hT
  | .bs .., T, cs, i, tf, h, hT => by simp only [CR] at h; obtain ⟨_, _, _, _, _, _, _, _, _, rfl, _⟩ := h; simp [Ty.fldTy] at hT
  | .pe .., T, cs, i, tf, h, hT => by simp only [CR] at h; obtain ⟨_, _, _, _, _, _, _, _, _, _, rfl, _⟩ := h; simp [Ty.fldTy] at hT
  | .pb .., T, cs, i, tf, h, hT => by simp only [CR] at h; obtain ⟨_, _, _, _, _, _, _, _, rfl, _⟩ := h; simp [Ty.fldTy] at hT
  | .pr .., T, cs, i, tf, h, hT => by simp only [CR] at h; obtain ⟨rfl, _⟩ := h; simp [Ty.fldTy] at hT
  | .nl _, T, cs, i, tf, h, hT => by simp only [CR] at h; obtain ⟨rfl, _⟩ := h; simp [Ty.fldTy] at hT
  | .nils, T, cs, i, tf, h, hT => by simp only [CR] at h; obtain ⟨⟨_, rfl⟩, _⟩ := h; simp [Ty.fldTy] at hT
  | .clo .., T, cs, i, tf, h, hT => by simp only [CR] at h; obtain ⟨rfl, _⟩ := h; simp [Ty.fldTy] at hT
  | .tup _, T, cs, i, tf, h, hT => by simp only [CR] at h

theorem FOK.nth : {t : Ty} → {r : List Field} → {o i : Nat} → {tf : Ty} → FOK P t r o → t.fldTy i = some tf →
    ∃ f o', r[i]? = some f ∧ TOK P tf f.type ∧ pathOff t [.fld i] = some (o', tf) ∧ f.offset = o + o'
  | .pair a b, r, o, i, tf, h, hT => by
    simp only [FOK] at h
    obtain ⟨f, r', rfl, ho, hn, hx, hy⟩ := h
    cases i with
    | zero =>
      simp only [Ty.fldTy, Option.some.injEq] at hT
      subst hT
      exact ⟨f, 0, rfl, hx, by rw [pathOff.eq_2, pathOff.eq_1], by omega⟩
    | succ i =>
      simp only [Ty.fldTy] at hT
      obtain ⟨f', o', h1, h2, h3, h4⟩ := FOK.nth hy hT
      exact ⟨f', a.size + o', by simpa using h1, h2, by rw [pathOff.eq_3, h3]; rfl, by omega⟩
  | .unit, _, _, _, _, _, hT | .int _, _, _, _, _, _, hT | .bool, _, _, _, _, _, hT | .str, _, _, _, _, _, hT | .sl _, _, _, _, _, _, hT | .arr .., _, _, _, _, _, hT
  | .opq _, _, _, _, _, _, hT => by simp [Ty.fldTy] at hT

theorem TOK.fld {a b : Ty} {T : TypeId} {i : Nat} {tf : Ty} (h : TOK P (.pair a b) T) (hT : (Ty.pair a b).fldTy i = some tf) :
    ∃ fs f, P.underlying T = some (.struct fs) ∧ fs[i]? = some f ∧ TOK P tf f.type ∧ pathOff (.pair a b) [.fld i] = some (f.offset, tf) := by
  simp only [TOK] at h
  obtain ⟨_, _, fs, f, r, hu, hf, ho, hn, hx, hy⟩ := h
  have hk : FOK P (.pair a b) fs.toList 0 := by
    simp only [FOK]; exact ⟨f, r, hf, ho, hn, hx, by simpa using hy⟩
  obtain ⟨f', o', h1, h2, h3, h4⟩ := hk.nth hT
  exact ⟨fs, f', hu, by simpa using h1, h2, by rw [h3, h4, Nat.zero_add]⟩

theorem pathOff_app : (t : Ty) → (p q : Path) → pathOff t (p ++ q) = (pathOff t p).bind fun (o, t') => (pathOff t' q).map fun (o', t'') => (o + o', t'')
  | t, [], q => by simp [pathOff]
  | .pair a b, .fld 0 :: p, q => by
    rw [List.cons_append, pathOff.eq_2, pathOff.eq_2]; exact pathOff_app a p q
  | .pair a b, .fld (i + 1) :: p, q => by
    rw [List.cons_append, pathOff.eq_3, pathOff.eq_3]
    have := pathOff_app b (.fld i :: p) q
    rw [List.cons_append] at this
    rw [this]
    cases pathOff b (.fld i :: p) with
    | none => rfl
    | some x => obtain ⟨o, t'⟩ := x; simp only [Option.bind_some, Option.map_some]; cases pathOff t' q <;> simp [Nat.add_assoc]
  | .arr n t, .idx i :: p, q => by
    rw [List.cons_append, pathOff.eq_4, pathOff.eq_4, pathOff_app t p q]
    cases pathOff t p with
    | none => rfl
    | some x => obtain ⟨o, t'⟩ := x; simp only [Option.bind_some, Option.map_some]; cases pathOff t' q <;> simp [Nat.add_assoc]
  | .int _, _ :: _, _ | .bool, _ :: _, _ | .str, _ :: _, _ | .sl _, _ :: _, _ | .unit, _ :: _, _ | .opq _, _ :: _, _
  | .pair .., .idx _ :: _, _ | .arr .., .fld _ :: _, _ => by simp [pathOff]

end
end Go.Eng

/- The engine, part 13: reading through pointers, parts of values, lengths, slices of slices. -/
namespace Go.Eng

section
variable {P : Program} {C : Ctx} {Rr : Type} {r : Rr} {k : AV → Option Rr}

theorem CellsAt.sub {w : World} {b off o s : Nat} {cs : List Value} (h : CellsAt w b off cs) : CellsAt w b (off + o) ((cs.drop o).take s) := by
  intro j hj
  simp only [List.length_take, List.length_drop] at hj
  simp only [List.getElem_take, List.getElem_drop, Nat.add_assoc]
  exact h (o + j) (by omega)

theorem fldTy_of : {T : Ty} → {i o : Nat} → {tf : Ty} → pathOff T [.fld i] = some (o, tf) → T.fldTy i = some tf
  | .pair a b, 0, o, tf, h => by rw [pathOff.eq_2, pathOff.eq_1] at h; simp only [Option.some.injEq, Prod.mk.injEq] at h; simp [Ty.fldTy, h.2]
  | .pair a b, i + 1, o, tf, h => by
    rw [pathOff.eq_3] at h
    cases hp : pathOff b [.fld i] with
    | none => simp [hp] at h
    | some x =>
      obtain ⟨o', t'⟩ := x
      simp only [hp, Option.map_some, Option.some.injEq, Prod.mk.injEq] at h
      obtain ⟨_, rfl⟩ := h
      simp only [Ty.fldTy]; exact fldTy_of hp
  | .int _, i, _, _, h | .bool, i, _, _, h | .str, i, _, _, h | .sl _, i, _, _, h | .unit, i, _, _, h | .opq _, i, _, _, h | .arr .., i, _, _, h => by cases i <;> simp [pathOff] at h

theorem getB_sound {x : AV} {q : Path} (h : getB x q k = some r) :
    ∃ a, k a = some r ∧ ∀ {E : Env} {ob : Store} {μ : Mu} {w : World} {T : Ty} {cs : List Value} {o : Nat} {ta : Ty}, CR E ob μ w x T cs → pathOff T q = some (o, ta) →
      o + ta.size ≤ T.size ∧ CR E ob μ w a ta ((cs.drop o).take ta.size) := by
  unfold getB at h
  split at h
  · refine ⟨x, h, fun {E ob μ w T cs o ta} hc hp => ?_⟩
    rw [pathOff.eq_1] at hp
    simp only [Option.some.injEq, Prod.mk.injEq] at hp
    obtain ⟨rfl, rfl⟩ := hp
    have := hc.len
    refine ⟨by omega, ?_⟩
    rw [List.drop_zero, List.take_of_length_le (by omega)]; exact hc
  · rename_i i q
    split at h
    · obtain ⟨t', d', o, h1, h2, h3, h4⟩ := gets_sound h
      refine ⟨_, h1, fun {E ob μ w T cs o' ta} hc hp => ?_⟩
      simp only [CR] at hc
      obtain ⟨rfl, hc⟩ := hc
      rw [h2] at hp
      simp only [Option.some.injEq, Prod.mk.injEq] at hp
      obtain ⟨rfl, rfl⟩ := hp
      exact ⟨h3, rfl, h4 hc⟩
    · rename_i l
      cases q with
      | nil =>
        refine ⟨_, h, fun {E ob μ w T cs o ta} hc hp => ?_⟩
        simp only [CR] at hc
        obtain ⟨o', p1, p2, p3⟩ := nth_sound hc.2 (fldTy_of hp)
        rw [hp] at p1
        simp only [Option.some.injEq, Prod.mk.injEq] at p1
        obtain ⟨rfl, _⟩ := p1
        exact ⟨p2, p3⟩
      | cons s q =>
        split at h
        · rename_i h' hx; cases hx
        · rename_i g t d hn hne
          obtain ⟨t', d', o, h1, h2, h3, h4⟩ := gets_sound h
          refine ⟨_, h1, fun {E ob μ w T cs o' ta} hc hp => ?_⟩
          simp only [CR] at hc
          rw [show Step.fld i :: s :: q = [.fld i] ++ s :: q from rfl, pathOff_app] at hp
          cases hf : pathOff T [.fld i] with
          | none => simp [hf] at hp
          | some x =>
            obtain ⟨o1, tf⟩ := x
            obtain ⟨o2, p1, p2, p3⟩ := nth_sound hc.2 (fldTy_of hf)
            rw [hf] at p1
            simp only [Option.some.injEq, Prod.mk.injEq] at p1
            obtain ⟨rfl, _⟩ := p1
            rw [hn] at p3
            simp only [CR] at p3
            obtain ⟨rfl, p3⟩ := p3
            simp only [hf, Option.bind_some, h2, Option.map_some, Option.some.injEq, Prod.mk.injEq] at hp
            obtain ⟨rfl, rfl⟩ := hp
            refine ⟨by omega, rfl, ?_⟩
            have := h4 p3
            rwa [List.drop_take, List.take_take, List.drop_drop, Nat.min_eq_left (by omega)] at this
        · cases h
    · cases h
  · split at h
    · obtain ⟨t', d', o, h1, h2, h3, h4⟩ := gets_sound h
      refine ⟨_, h1, fun {E ob μ w T cs o' ta} hc hp => ?_⟩
      simp only [CR] at hc
      obtain ⟨rfl, hc⟩ := hc
      rw [h2] at hp
      simp only [Option.some.injEq, Prod.mk.injEq] at hp
      obtain ⟨rfl, rfl⟩ := hp
      exact ⟨h3, rfl, h4 hc⟩
    · cases h

theorem VR.pr {E : Env} {ob : Store} {μ : Mu} {w : World} {g : Bool} {t : Ty} {d : t.D} {v : Value} (h : VR E ob μ w (.pr g t d) v) :
    ∃ b o es, v = .pointer (some ⟨b, o, none⟩) ∧ Sb E ob μ g b ∧ b < w.heap.size ∧ R w (Sb E ob μ g) t d es ∧ CellsAt w b o es := by
  obtain ⟨T, h1, _, h3⟩ := h
  simp only [CR] at h1
  obtain ⟨rfl, x, es, e, hs, hb, hz, hr, hc⟩ := h1
  rw [h3 rfl] at e
  obtain ⟨b, o, s⟩ := x
  simp only at hs
  subst hs
  exact ⟨b, o, es, by simpa using e, hb, hz, hr, hc⟩
theorem VR.pe {E : Env} {ob : Store} {μ : Mu} {w : World} {n i : Nat} {p : Path} {v : Value} (h : VR E ob μ w (.pe n i p) v) :
    ∃ g t l o t' x, ob.get n = some (.arr g t l) ∧ i < l.length ∧ pathOff t p = some (o, t') ∧ μ.addr n = some x ∧ v = .pointer (some ⟨x.block, x.off + i * t.size + o, none⟩) := by
  obtain ⟨T, h1, _, h3⟩ := h
  simp only [CR] at h1
  obtain ⟨g, t, l, o, t', x, a1, a2, a3, a4, rfl, e⟩ := h1
  rw [h3 rfl] at e
  exact ⟨g, t, l, o, t', x, a1, a2, a3, a4, by simpa using e⟩
theorem VR.pb {E : Env} {ob : Store} {μ : Mu} {w : World} {n : Nat} {p : Path} {v : Value} (h : VR E ob μ w (.pb n p) v) :
    ∃ T' a o t' x, ob.get n = some (.box T' a) ∧ pathOff T' p = some (o, t') ∧ μ.addr n = some x ∧ v = .pointer (some ⟨x.block, x.off + o, none⟩) := by
  obtain ⟨T, h1, _, h3⟩ := h
  simp only [CR] at h1
  obtain ⟨T', a, o, t', x, a1, a2, a3, rfl, e⟩ := h1
  rw [h3 rfl] at e
  exact ⟨T', a, o, t', x, a1, a2, a3, by simpa using e⟩

theorem load_run {t : Ty} {T : TypeId} (h : TOK P t T) {w : World} {b o : Nat} {cs : List Value} (hl : cs.length = t.size) (h1 : ∀ v ∈ cs, v.oneCell' = true) (hc : CellsAt w b o cs) :
    ∃ v, (Instr.loadAt T (.pointer (some ⟨b, o, none⟩))).run P w = .ok v w ∧ v.cells.toList = cs ∧ Shape t v := by
  obtain ⟨v, h2, h3⟩ := h.loadVar hl h1 hc
  exact ⟨v, by simpa [Instr.loadAt, Instr.sureAddr] using h2, h3⟩

theorem load_runs {t : Ty} {T : TypeId} (h : TOK P t T) {w : World} {b o : Nat} {cs : List Value} (hl : cs.length = t.size) (h1 : ∀ v ∈ cs, v.oneCell' = true) (hc : CellsAt w b o cs) (hb : b < w.heap.size) :
    ∃ v, RunsTo P w (Instr.loadAt T (.pointer (some ⟨b, o, none⟩))) v ∧ v.cells.toList = cs ∧ Shape t v := by
  obtain ⟨v, h2, h3, h4⟩ := load_run h hl h1 hc
  refine ⟨v, fun w' hw => ?_, h3, h4⟩
  obtain ⟨v', e2, e3, e4⟩ := load_run h hl h1 (hc.ext hw hb)
  rw [cells_inj (h3.trans e3.symm) h4 e4]
  exact e2

theorem loadK_sound (hC : CtxT P C) {st : St} {T : TypeId} {p : AV} (h : loadK C st T p k = some r) :
    ∃ z, k z = some r ∧ ∀ {E : Env} {μ : Mu} {w : World} {v0 : Value}, Rel E st.ob μ w → VR E st.ob μ w p v0 → ∃ v, RunsTo P w (Instr.loadAt T v0) v ∧ VR E st.ob μ w z v := by
  unfold loadK at h
  split at h
  · rename_i g t d
    split at h
    · rename_i ht
      refine ⟨_, h, fun {E μ w v0} _ hv => ?_⟩
      obtain ⟨b, o, es, rfl, _, hbs, hr, hc⟩ := hv.pr
      obtain ⟨v, h1, h2, h3⟩ := load_runs (hC.tt _ _ ht) hr.len hr.one hc hbs
      exact ⟨v, h1, VR.v_iff.2 ⟨by rw [h2]; exact hr, h3⟩⟩
    · cases h
  · rename_i n i q
    split at h
    · rename_i g t l ho
      obtain ⟨t', d', o, h1, h2, h3, h4⟩ := gets_sound h
      split at h1
      · rename_i ht
        refine ⟨_, h1, fun {E μ w v0} hR hv => ?_⟩
        obtain ⟨g', t1, l', o', t2, x, a1, a2, a3, a4, rfl⟩ := hv.pe
        rw [ho] at a1
        simp only [Option.some.injEq, Obj.arr.injEq] at a1
        obtain ⟨rfl, rfl, a1⟩ := a1
        obtain rfl := eq_of_heq a1
        rw [h2] at a3
        simp only [Option.some.injEq, Prod.mk.injEq] at a3
        obtain ⟨rfl, rfl⟩ := a3
        obtain ⟨_, _, _, hx⟩ := hR.objs n _ ho
        obtain ⟨_, _, hel⟩ := hx x a4
        obtain ⟨es, hr, hc⟩ := hel i a2
        have hr' := h4 (by simpa [List.getD, List.getElem?_eq_getElem a2] using hr)
        obtain ⟨v, g1, g2, g3⟩ := load_runs (hC.tt _ _ ht) hr'.len hr'.one (hc.sub (o := o) (s := t'.size)) (hR.own n _ x ho a4).1
        exact ⟨v, g1, VR.v_iff.2 ⟨by rw [g2]; exact hr', g3⟩⟩
      · cases h1
    · cases h
  · rename_i n q
    split at h
    · rename_i Tb x t ho ht
      obtain ⟨a, h1, h2⟩ := getB_sound h
      split at h1
      · rename_i hfit
        refine ⟨_, h1, fun {E μ w v0} hR hv => ?_⟩
        obtain ⟨T', a', o, t', y, a1, a2, a3, rfl⟩ := hv.pb
        rw [ho] at a1
        simp only [Option.some.injEq, Obj.box.injEq] at a1
        obtain ⟨rfl, rfl⟩ := a1
        obtain ⟨y', cs, b1, b2, b3, b4, b5⟩ := hR.objs n _ ho
        rw [a3] at b1
        obtain rfl := Option.some.inj b1
        obtain ⟨c1, c2⟩ := h2 b3 a2
        obtain ⟨f1, f2, f3⟩ := fits_of hfit c2
        obtain ⟨v, g1, g2, g3⟩ := load_runs (hC.tt _ _ ht) (by rw [c2.len, f1]) f3 (b4.sub (o := o) (s := t'.size)) (hR.own n _ y ho a3).1
        exact ⟨v, g1, VR.of_cells (T := t') (by rw [g2]; exact c2) (g3.of f2)⟩
      · cases h1
    · cases h
  · cases h

/-! ### addresses -/

theorem VR.mkPb {E : Env} {ob : Store} {μ : Mu} {w : World} {n : Nat} {p : Path} {T' : Ty} {a : AV} {o : Nat} {t' : Ty} {x : Addr} (h1 : ob.get n = some (.box T' a))
    (h2 : pathOff T' p = some (o, t')) (h3 : μ.addr n = some x) : VR E ob μ w (.pb n p) (.pointer (some ⟨x.block, x.off + o, none⟩)) :=
  ⟨.opq .ptr, ⟨T', a, o, t', x, h1, h2, h3, rfl, rfl⟩, by simp [Ty.isAgg], fun _ => rfl⟩
theorem VR.mkPe {E : Env} {ob : Store} {μ : Mu} {w : World} {n i : Nat} {p : Path} {g : Bool} {t : Ty} {l : List t.D} {o : Nat} {t' : Ty} {x : Addr} (h1 : ob.get n = some (.arr g t l))
    (hi : i < l.length) (h2 : pathOff t p = some (o, t')) (h3 : μ.addr n = some x) : VR E ob μ w (.pe n i p) (.pointer (some ⟨x.block, x.off + i * t.size + o, none⟩)) :=
  ⟨.opq .ptr, ⟨g, t, l, o, t', x, h1, hi, h2, h3, rfl, rfl⟩, by simp [Ty.isAgg], fun _ => rfl⟩
theorem VR.mkPr {E : Env} {ob : Store} {μ : Mu} {w : World} {g : Bool} {t : Ty} {d : t.D} {b o : Nat} {es : List Value} (h1 : Sb E ob μ g b) (h2 : b < w.heap.size)
    (h3 : R w (Sb E ob μ g) t d es) (h4 : CellsAt w b o es) : VR E ob μ w (.pr g t d) (.pointer (some ⟨b, o, none⟩)) :=
  ⟨.opq .ptr, ⟨rfl, _, es, rfl, rfl, h1, h2, h3, h4⟩, by simp [Ty.isAgg], fun _ => rfl⟩

theorem fieldPlace_run {tf : Ty} {f : Field} (h : TOK P tf f.type) (hz : tf.size ≠ 0) (b o : Nat) (w : World) :
    (fieldPlace ⟨b, o, none⟩ f).run P w = .ok ⟨b, o + f.offset, none⟩ w := by
  simp [fieldPlace, h.sizeOf, hz, addr_add]

theorem fieldAddrK_sound (hC : CtxT P C) {st : St} {T : TypeId} {x : AV} {i : Nat} (h : fieldAddrK C st T x i k = some r) :
    ∃ z, k z = some r ∧ ∀ {E : Env} {μ : Mu} {w : World} {v0 : Value}, VR E st.ob μ w x v0 → ∃ v, (∀ w', (Instr.fieldAt T v0 i).run P w' = .ok v w') ∧ VR E st.ob μ w z v := by
  unfold fieldAddrK at h
  split at h
  · rename_i a b hT
    split at h
    · rename_i tf hf
      split at h
      · cases h
      · rename_i hz
        obtain ⟨fs, f, hu, hfi, htf, hp⟩ := (hC.tt _ _ hT).fld hf
        have run : ∀ (bl o : Nat) (w : World), (Instr.fieldAt T (.pointer (some ⟨bl, o, none⟩)) i).run P w = .ok (.pointer (some ⟨bl, o + f.offset, none⟩)) w := fun bl o w => by
          simp [Instr.fieldAt, run_underlying' hu, hfi, Instr.sureAddr, fieldPlace_run htf hz]
        split at h
        · rename_i n q
          split at h
          · rename_i Tb y ho
            split at h
            · rename_i hpo
              refine ⟨_, h, fun {E μ w v0} hv => ?_⟩
              obtain ⟨T', a', o, t', x, a1, a2, a3, rfl⟩ := hv.pb
              rw [ho] at a1
              simp only [Option.some.injEq, Obj.box.injEq] at a1
              obtain ⟨rfl, rfl⟩ := a1
              rw [a2] at hpo
              simp only [Option.map_some, Option.some.injEq] at hpo
              subst hpo
              refine ⟨_, fun w' => run _ _ w', ?_⟩
              rw [Nat.add_assoc]
              exact VR.mkPb (t' := tf) ho (by rw [pathOff_app, a2]; simp only [Option.bind_some, hp, Option.map_some]) a3
            · cases h
          · cases h
        · rename_i n j q
          split at h
          · rename_i g t' l ho
            split at h
            · rename_i hpo
              refine ⟨_, h, fun {E μ w v0} hv => ?_⟩
              obtain ⟨g', t1, l', o', t2, x, a1, a2, a3, a4, rfl⟩ := hv.pe
              rw [ho] at a1
              simp only [Option.some.injEq, Obj.arr.injEq] at a1
              obtain ⟨rfl, rfl, a1⟩ := a1
              obtain rfl := eq_of_heq a1
              rw [a3] at hpo
              simp only [Option.map_some, Option.some.injEq] at hpo
              subst hpo
              refine ⟨_, fun w' => run _ _ w', ?_⟩
              rw [Nat.add_assoc (x.off + j * t'.size)]
              exact VR.mkPe (t' := tf) ho a2 (by rw [pathOff_app, a3]; simp only [Option.bind_some, hp, Option.map_some]) a4
            · cases h
          · cases h
        · rename_i g t d
          split at h
          · rename_i ht
            subst ht
            obtain ⟨t', d', o, h1, h2, h3, h4⟩ := gets_sound h
            refine ⟨_, h1, fun {E μ w v0} hv => ?_⟩
            obtain ⟨bl, o', es, rfl, s1, s2, hr, hc⟩ := hv.pr
            refine ⟨_, fun w' => run _ _ w', ?_⟩
            rw [hp] at h2
            simp only [Option.some.injEq, Prod.mk.injEq] at h2
            obtain ⟨rfl, rfl⟩ := h2
            exact VR.mkPr s1 s2 (h4 hr) hc.sub
          · cases h
        · cases h
    · cases h
  · cases h

end
end Go.Eng

/- The engine, part 14: elements, parts, lengths, slices of slices; small operations. -/
namespace Go.Eng

section
variable {P : Program} {C : Ctx} {Rr : Type} {r : Rr} {k : AV → Option Rr}

theorem TOK.slElem {t : Ty} {T : TypeId} (h : TOK P (.sl t) T) : ∃ e, P.underlying T = some (.slice e) ∧ TOK P t e := by
  simp only [TOK] at h; exact h.2
theorem TOK.arrElem {t : Ty} {n : Nat} {T : TypeId} (h : TOK P (.arr n t) T) : ∃ e, P.underlying T = some (.array n e) ∧ TOK P t e := by
  simp only [TOK] at h; exact h.2

theorem VR.sl {E : Env} {ob : Store} {μ : Mu} {w : World} {n : Nat} {v : Value} (h : VR E ob μ w (.sl n) v) :
    ∃ g t l, ob.get n = some (.arr g t l) ∧ v = .slice (μ.addr n) l.length (μ.cap n) := by
  obtain ⟨T, h1, _, h3⟩ := h
  simp only [CR] at h1
  obtain ⟨g, t, l, a1, rfl, e⟩ := h1
  rw [h3 rfl] at e
  exact ⟨g, t, l, a1, by simpa using e⟩
theorem VR.sub {E : Env} {ob : Store} {μ : Mu} {w : World} {n off len : Nat} {v : Value} (h : VR E ob μ w (.sub n off len) v) :
    ∃ g t l o cap, ob.get n = some (.arr g t l) ∧ off + len ≤ l.length ∧ len ≤ cap ∧ (μ.addr n = none → cap = 0) ∧
      (0 < len → ∀ x, μ.addr n = some x → o = x.off + off * t.size) ∧ v = .slice ((μ.addr n).map fun x => ⟨x.block, o, none⟩) len cap := by
  obtain ⟨T, h1, _, h3⟩ := h
  simp only [CR] at h1
  obtain ⟨g, t, l, o, cap, a1, rfl, a2, a3, a4, a5, e⟩ := h1
  rw [h3 rfl] at e
  exact ⟨g, t, l, o, cap, a1, a2, a3, a4, a5, by simpa using e⟩
theorem VR.vsl {E : Env} {ob : Store} {μ : Mu} {w : World} {g : Bool} {t : Ty} {l : List t.D} {v : Value} (h : VR E ob μ w (.v g (.sl t) l) v) :
    ∃ a cap, v = .slice a l.length cap ∧ l.length ≤ cap ∧ l.length ≤ maxI ∧ (a = none → cap = 0) ∧ ∀ x, a = some x → 0 < l.length → x.spot = none ∧ Sb E ob μ g x.block ∧ x.block < w.heap.size ∧
      ∀ i (h : i < l.length), ∃ es, R w (Sb E ob μ g) t l[i] es ∧ CellsAt w x.block (x.off + i * t.size) es := by
  obtain ⟨h1, h2⟩ := VR.v_iff.1 h
  simp only [R] at h1
  obtain ⟨a, cap, e, a1, a2, a3, a4⟩ := h1
  rw [h2.2 rfl] at e
  exact ⟨a, cap, by simpa using e, a1, a2, a3, a4⟩

theorem objs_arr {E : Env} {ob : Store} {μ : Mu} {w : World} {n : Nat} {g : Bool} {t : Ty} {l : List t.D} (hR : Rel E ob μ w) (ho : ob.get n = some (.arr g t l)) :
    l.length ≤ μ.cap n ∧ l.length ≤ maxI ∧ (μ.addr n = none → μ.cap n = 0) ∧ ∀ x, μ.addr n = some x → x.spot = none ∧ Own w x.block x.off (μ.cap n * t.size) ∧
      ∀ i (h : i < l.length), ∃ es, R w (Sb E ob μ g) t l[i] es ∧ CellsAt w x.block (x.off + i * t.size) es := hR.objs n _ ho

theorem index_slice {T e : TypeId} {t : Ty} (hu : P.underlying T = some (.slice e)) (he : TOK P t e) {j : IntKind} {i : Int} {x : Addr} {len cap : Nat} (h : 0 ≤ i ∧ i < (len : Int)) (w : World) :
    (Instr.indexAt T (.slice (some x) len cap) (.int j i)).run P w = .ok (.pointer (some (x.add (i.toNat * t.size)))) w := by
  simp [Instr.indexAt, asIntOf, run_underlying' hu, h, he.sizeOf]
theorem index_array {T e : TypeId} {t : Ty} {n : Nat} (hu : P.underlying T = some (.array n e)) (he : TOK P t e) {j : IntKind} {i : Int} {x : Addr} (h : 0 ≤ i ∧ i < (n : Int)) (w : World) :
    (Instr.indexAt T (.pointer (some x)) (.int j i)).run P w = .ok (.pointer (some (x.add (i.toNat * t.size)))) w := by
  simp [Instr.indexAt, asIntOf, run_underlying' hu, h, he.sizeOf, Instr.sureAddr]

theorem add_of {x : Addr} (h : x.spot = none) (n : Nat) : x.add n = ⟨x.block, x.off + n, none⟩ := by
  obtain ⟨b, o, s⟩ := x; simp only at h; subst h; exact addr_add b o n

theorem pathOff_fst {Tb T' : Ty} {q : Path} (h : (pathOff Tb q).map (·.2) = some T') : ∃ o, pathOff Tb q = some (o, T') := by
  cases hp : pathOff Tb q with
  | none => simp [hp] at h
  | some x => obtain ⟨o, t⟩ := x; simp [hp] at h; exact ⟨o, by rw [h]⟩

theorem indexAddrI_sound (hC : CtxT P C) {st : St} {T : TypeId} {x : AV} {i : Int} (h : indexAddrI C st T x i k = some r) :
    ∃ z, k z = some r ∧ ∀ {E : Env} {μ : Mu} {w : World} {v0 : Value} {j : IntKind}, Rel E st.ob μ w → VR E st.ob μ w x v0 →
      ∃ v, (∀ w', (Instr.indexAt T v0 (.int j i)).run P w' = .ok v w') ∧ VR E st.ob μ w z v := by
  unfold indexAddrI at h
  split at h
  · rename_i t hT
    obtain ⟨e, hu, he⟩ := (hC.tt _ _ hT).slElem
    split at h
    · rename_i g t' l
      split at h
      · rename_i t1 l
        split at h
        · rename_i ht; subst ht
          split at h
          · rename_i hb
            refine ⟨_, h, fun {E μ w v0 j} _ hv => ?_⟩
            obtain ⟨a, cap, rfl, hcap, _, hnone, hx⟩ := hv.vsl
            cases a with
            | none => have := hnone rfl; omega
            | some x =>
              obtain ⟨s1, s2, s3, s4⟩ := hx x rfl (by omega)
              have hil : i.toNat < l.length := by omega
              obtain ⟨es, hr, hc⟩ := s4 i.toNat hil
              refine ⟨_, fun w' => index_slice hu he hb w', ?_⟩
              rw [add_of s1]
              exact VR.mkPr s2 s3 (by simpa [List.getD, List.getElem?_eq_getElem hil] using hr) hc
          · cases h
        · cases h
      · cases h
    · rename_i n
      split at h
      · rename_i g t' l ho
        split at h
        · rename_i ht; subst ht
          split at h
          · rename_i hb
            refine ⟨_, h, fun {E μ w v0 j} hR hv => ?_⟩
            obtain ⟨g', t1, l', a1, rfl⟩ := hv.sl
            rw [ho] at a1
            simp only [Option.some.injEq, Obj.arr.injEq] at a1
            obtain ⟨rfl, rfl, a1⟩ := a1
            obtain rfl := eq_of_heq a1
            obtain ⟨b1, b2, b3, b4⟩ := objs_arr hR ho
            cases ha : μ.addr n with
            | none => have := b3 ha; omega
            | some x =>
              refine ⟨_, fun w' => index_slice hu he hb w', ?_⟩
              rw [add_of (b4 x ha).1, ← Nat.add_zero (x.off + i.toNat * t'.size)]
              exact VR.mkPe (t' := t') ho (by omega) (by rw [pathOff.eq_1]) ha
          · cases h
        · cases h
      · cases h
    · rename_i n off len
      split at h
      · rename_i g t' l ho
        split at h
        · rename_i ht; subst ht
          split at h
          · rename_i hb
            refine ⟨_, h, fun {E μ w v0 j} hR hv => ?_⟩
            obtain ⟨g', t1, l', o, cap, a1, a2, a3, a4, a5, rfl⟩ := hv.sub
            rw [ho] at a1
            simp only [Option.some.injEq, Obj.arr.injEq] at a1
            obtain ⟨rfl, rfl, a1⟩ := a1
            obtain rfl := eq_of_heq a1
            cases ha : μ.addr n with
            | none => have := a4 ha; omega
            | some x =>
              refine ⟨_, fun w' => index_slice hu he hb w', ?_⟩
              rw [addr_add, a5 (by omega) x ha, Nat.add_assoc, ← Nat.add_mul, ← Nat.add_zero (x.off + (off + i.toNat) * t'.size)]
              exact VR.mkPe (t' := t') ho (by omega) (by rw [pathOff.eq_1]) ha
          · cases h
        · cases h
      · cases h
    · cases h
  · rename_i m t hT
    obtain ⟨e, hu, he⟩ := (hC.tt _ _ hT).arrElem
    split at h
    · cases h
    split at h
    · rename_i n q
      split at h
      · rename_i Tb y ho
        split at h
        · rename_i hp
          split at h
          · rename_i hb
            refine ⟨_, h, fun {E μ w v0 j} hR hv => ?_⟩
            obtain ⟨T', a', o, t', x, a1, a2, a3, rfl⟩ := hv.pb
            rw [ho] at a1
            simp only [Option.some.injEq, Obj.box.injEq] at a1
            obtain ⟨rfl, rfl⟩ := a1
            rw [a2] at hp
            simp only [Option.map_some, Option.some.injEq] at hp
            subst hp
            refine ⟨_, fun w' => index_array hu he hb w', ?_⟩
            rw [addr_add, Nat.add_assoc]
            exact VR.mkPb (t' := t) ho (by rw [pathOff_app, a2]; simp only [Option.bind_some, pathOff.eq_4, pathOff.eq_1, Option.map_some, Nat.add_zero]) a3
          · cases h
        · cases h
      · cases h
    · rename_i n jj q
      split at h
      · rename_i g t' l ho
        split at h
        · rename_i hp
          split at h
          · rename_i hb
            refine ⟨_, h, fun {E μ w v0 j} hR hv => ?_⟩
            obtain ⟨g', t1, l', o', t2, x, a1, a2, a3, a4, rfl⟩ := hv.pe
            rw [ho] at a1
            simp only [Option.some.injEq, Obj.arr.injEq] at a1
            obtain ⟨rfl, rfl, a1⟩ := a1
            obtain rfl := eq_of_heq a1
            rw [a3] at hp
            simp only [Option.map_some, Option.some.injEq] at hp
            subst hp
            refine ⟨_, fun w' => index_array hu he hb w', ?_⟩
            rw [addr_add, Nat.add_assoc (x.off + jj * t'.size)]
            exact VR.mkPe (t' := t) ho a2 (by rw [pathOff_app, a3]; simp only [Option.bind_some, pathOff.eq_4, pathOff.eq_1, Option.map_some, Nat.add_zero]) a4
          · cases h
        · cases h
      · cases h
    · rename_i g t' l
      split at h
      · rename_i m' t1 l
        split at h
        · rename_i hm
          obtain ⟨rfl, rfl⟩ := hm
          split at h
          · rename_i hb
            refine ⟨_, h, fun {E μ w v0 j} hR hv => ?_⟩
            obtain ⟨bl, o', es, rfl, s1, s2, hr, hc⟩ := hv.pr
            refine ⟨_, fun w' => index_array hu he hb w', ?_⟩
            rw [addr_add]
            simp only [R] at hr
            have hil : i.toNat < l.length := by rw [hr.1]; omega
            exact VR.mkPr s1 s2 (by simpa [List.getD, List.getElem?_eq_getElem hil] using hr.2.2 i.toNat hil) hc.sub
          · cases h
        · cases h
      · cases h
    · cases h
  · cases h

theorem indexAddrK_sound (hC : CtxT P C) {st : St} {T : TypeId} {x ix : AV} (h : indexAddrK C st T x ix k = some r) :
    ∃ z, k z = some r ∧ ∀ {E : Env} {μ : Mu} {w : World} {v0 v1 : Value}, Rel E st.ob μ w → VR E st.ob μ w x v0 → VR E st.ob μ w ix v1 →
      ∃ v, (∀ w', (Instr.indexAt T v0 v1).run P w' = .ok v w') ∧ VR E st.ob μ w z v := by
  unfold indexAddrK at h
  split at h
  · obtain ⟨z, hz, hs⟩ := indexAddrI_sound hC h
    refine ⟨z, hz, fun hR hv hi => ?_⟩
    obtain ⟨rfl, _⟩ := hi.int
    exact hs hR hv
  · cases h

theorem fits_off {E : Env} {ob : Store} {μ : Mu} {w : World} : {l : AV} → {t T : Ty} → {cs : List Value} → {i o : Nat} → {tf : Ty} → l.fits ob t = true → CR E ob μ w l T cs →
    pathOff t [.fld i] = some (o, tf) → ∃ tf', pathOff T [.fld i] = some (o, tf')
  | .cons x y, t, T, cs, i, o, tf, hf, h, hp => by
    cases t <;> simp [AV.fits] at hf
    simp only [CR] at h
    obtain ⟨a, b, rfl, h1, h2⟩ := h
    have e1 := fits_of hf.1 h1
    cases i with
    | zero =>
      rw [pathOff.eq_2, pathOff.eq_1] at hp ⊢
      simp only [Option.some.injEq, Prod.mk.injEq] at hp
      exact ⟨_, by rw [hp.1]⟩
    | succ i =>
      rw [pathOff.eq_3] at hp ⊢
      rename_i a0 b0
      cases hq : pathOff b0 [.fld i] with
      | none => simp [hq] at hp
      | some z =>
        obtain ⟨o', t'⟩ := z
        obtain ⟨tf', h3⟩ := fits_off hf.2 h2 hq
        simp only [hq, Option.map_some, Option.some.injEq, Prod.mk.injEq] at hp
        exact ⟨tf', by rw [h3]; simp only [Option.map_some, Option.some.injEq, Prod.mk.injEq, and_true]; omega⟩
  | .v .., t, T, cs, i, o, tf, hf, h, hp => by
    simp only [AV.fits, decide_eq_true_eq] at hf
    simp only [CR] at h
    obtain ⟨rfl, _⟩ := h
    exact ⟨tf, hf ▸ hp⟩
  | .ag l, t, T, cs, i, o, tf, hf, h, hp => by
    cases t <;> simp [AV.fits] at hf
    simp only [CR] at h
    exact fits_off hf h.2 hp
  | .nil, t, T, cs, i, o, tf, hf, h, hp | .sl _, t, T, cs, i, o, tf, hf, h, hp | .sub .., t, T, cs, i, o, tf, hf, h, hp | .bs .., t, T, cs, i, o, tf, hf, h, hp
  | .pe .., t, T, cs, i, o, tf, hf, h, hp | .pb .., t, T, cs, i, o, tf, hf, h, hp | .pr .., t, T, cs, i, o, tf, hf, h, hp | .nl _, t, T, cs, i, o, tf, hf, h, hp
  | .nils, t, T, cs, i, o, tf, hf, h, hp | .clo .., t, T, cs, i, o, tf, hf, h, hp | .tup _, t, T, cs, i, o, tf, hf, h, hp | .dead, t, T, cs, i, o, tf, hf, h, hp => by
    cases t <;> first | (simp [AV.fits] at hf; done) | (cases i <;> simp [pathOff] at hp)

theorem fieldK_sound (hC : CtxT P C) {ob : Store} {T : TypeId} {x : AV} {i : Nat} (h : fieldK C ob T x i k = some r) :
    ∃ z, k z = some r ∧ ∀ {E : Env} {μ : Mu} {w : World} {v0 : Value}, VR E ob μ w x v0 → ∃ v, (∀ w', (Instr.field T v0 i).run P w' = .ok v w') ∧ VR E ob μ w z v := by
  unfold fieldK at h
  split at h
  · rename_i T0 g t d hT
    split at h
    · rename_i ht; subst ht
      obtain ⟨t', d', o, h1, h2, h3, h4⟩ := gets_sound h
      refine ⟨_, h1, fun {E μ w v0} hv => ?_⟩
      obtain ⟨hr, hs⟩ := VR.v_iff.1 hv
      cases t with
      | pair a b =>
        obtain ⟨cs, rfl⟩ := hs.1 rfl
        obtain ⟨fs, f, hu, hfi, htf, hp⟩ := (hC.tt _ _ hT).fld (fldTy_of h2)
        rw [h2] at hp
        simp only [Option.some.injEq, Prod.mk.injEq, and_true] at hp
        subst hp
        have hr' := h4 hr
        obtain ⟨v, g1, g2, g3⟩ := part_run htf (xs := cs) hr'.len hr'.one
        refine ⟨v, fun w' => ?_, VR.v_iff.2 ⟨by rw [g2]; exact hr', g3⟩⟩
        simp [Instr.field, run_underlying' hu, hfi, asAgg, g1]
      | _ => cases i <;> simp [pathOff] at h2
    · cases h
  · rename_i T0 l hT
    split at h
    · rename_i tf hf0
      split at h
      · rename_i hf
        obtain ⟨hf, hfn⟩ := hf
        refine ⟨_, h, fun {E μ w v0} hv => ?_⟩
        have hTok := hC.tt _ _ hT
        cases T0 with
        | pair a b =>
          obtain ⟨T, hc, hs, e1, e2⟩ := hv.cells hf
          obtain ⟨cs, rfl⟩ := hs.1 (by rw [← e2]; rfl)
          simp only [CR] at hc
          obtain ⟨fs, f, hu, hfi, htf, hp⟩ := hTok.fld hf0
          obtain ⟨tf', hp'⟩ := fits_off (by simpa [AV.fits] using hf) hc.2 hp
          obtain ⟨o, p1, p2, p3⟩ := nth_sound hc.2 (fldTy_of hp')
          rw [hp'] at p1
          simp only [Option.some.injEq, Prod.mk.injEq, and_true] at p1
          subst p1
          obtain ⟨q1, q2, q3⟩ := fits_of hfn p3
          rw [← q1] at p3 q3
          simp only [Value.cells] at p3 q3
          obtain ⟨v, g1, g2, g3⟩ := part_run htf (xs := cs) (by rw [p3.len, q1]) q3
          refine ⟨v, fun w' => ?_, VR.of_cells (T := tf') (by rw [g2]; exact p3) (g3.of q2)⟩
          simp [Instr.field, run_underlying' hu, hfi, asAgg, g1]
        | _ => simp [AV.fits] at hf
      · cases h
    · cases h
  · cases h

theorem bytesL_get {s : ByteArray} {i : Nat} (h : i < s.size) : (bytesL s).getD i 0 = ((s[i]'h).toNat : Int) := by
  have : i < s.data.toList.length := by simpa using h
  simp only [bytesL, List.getD, List.getElem?_map, List.getElem?_eq_getElem this, Option.map_some, Option.getD_some]
  rfl

theorem ok_u8 (n : UInt8) : ok .u8 (n.toNat : Int) := by
  have := n.toNat_lt
  simp [ok, IntKind.min, IntKind.max, IntKind.signed, IntKind.bits]; omega

theorem indexI_sound (hC : CtxT P C) {T : TypeId} {x : AV} {i : Int} (h : indexI C T x i k = some r) :
    ∃ z, k z = some r ∧ ∀ {E : Env} {ob : Store} {μ : Mu} {w : World} {v0 : Value} {j : IntKind}, VR E ob μ w x v0 → ∃ v, (∀ w', (Instr.index T v0 (.int j i)).run P w' = .ok v w') ∧ VR E ob μ w z v := by
  unfold indexI at h
  split at h
  · rename_i g t d
    split at h
    · rename_i m t l
      split at h
      · rename_i hT
        split at h
        · rename_i hb
          refine ⟨_, h, fun {E ob μ w v0 j} hv => ?_⟩
          obtain ⟨e, hu, he⟩ := (hC.tt _ _ hT).arrElem
          obtain ⟨hr, hs⟩ := VR.v_iff.1 hv
          obtain ⟨cs, rfl⟩ := hs.1 rfl
          simp only [R, Value.cells] at hr
          have hil : i.toNat < l.length := by rw [hr.1]; omega
          have hri := hr.2.2 i.toNat hil
          obtain ⟨v, g1, g2, g3⟩ := part_run he (xs := cs) hri.len hri.one
          refine ⟨v, fun w' => ?_, VR.v_iff.2 ⟨by rw [g2]; simpa [List.getD, List.getElem?_eq_getElem hil] using hri, g3⟩⟩
          simp [Instr.index, asIntOf, run_underlying' hu, hb, he.sizeOf, g1]
        · cases h
      · cases h
    · rename_i s
      split at h
      · rename_i hT
        split at h
        · rename_i hb
          refine ⟨_, h, fun {E ob μ w v0 j} hv => ?_⟩
          have hT' := hC.tt _ _ hT
          simp only [TOK] at hT'
          obtain rfl := hv.str
          have hil : i.toNat < s.size := by omega
          refine ⟨.int .u8 (s[i.toNat]'hil).toNat, fun w' => ?_, ?_⟩
          · have hg : s[i.toNat]? = some (s[i.toNat]'hil) := by rw [getElem?_pos s i.toNat hil]
            simp [Instr.index, asIntOf, run_underlying' hT'.2, hb.1, hg]
          · rw [bytesL_get hil]; exact VR.mkInt (ok_u8 _)
        · cases h
      · cases h
    · cases h
  · cases h
theorem indexK_sound (hC : CtxT P C) {T : TypeId} {x ix : AV} (h : indexK C T x ix k = some r) :
    ∃ z, k z = some r ∧ ∀ {E : Env} {ob : Store} {μ : Mu} {w : World} {v0 v1 : Value}, VR E ob μ w x v0 → VR E ob μ w ix v1 → ∃ v, (∀ w', (Instr.index T v0 v1).run P w' = .ok v w') ∧ VR E ob μ w z v := by
  unfold indexK at h
  split at h
  · obtain ⟨z, hz, hs⟩ := indexI_sound hC h
    refine ⟨z, hz, fun hv hi => ?_⟩
    obtain ⟨rfl, _⟩ := hi.int
    exact hs hv
  · cases h

/-! ### slices of slices -/

theorem VR.int? {E : Env} {ob : Store} {μ : Mu} {w : World} {x : AV} {i : Int} {v : Value} (hx : x.int? = some i) (h : VR E ob μ w x v) : ∃ j, v = .int j i := by
  unfold AV.int? at hx
  split at hx
  · obtain rfl := Option.some.inj hx; obtain ⟨rfl, _⟩ := h.int; exact ⟨_, rfl⟩
  · cases hx

def OR (E : Env) (ob : Store) (μ : Mu) (w : World) : Option AV → Option Value → Prop
  | none, none => True
  | some x, some v => VR E ob μ w x v
  | _, _ => False

theorem bound_run {j : IntKind} {i : Int} {y : Nat} (h : 0 ≤ i ∧ i ≤ (y : Int)) (code : BoundsCode) (w : World) : (Instr.sliceBound (.int j i) y code).run P w = .ok i.toNat w := by
  simp [Instr.sliceBound, asIntOf, h]

theorem loK_sound {len : Nat} {lo : Option AV} {k : Nat → Nat → Option Rr} (h : loK len lo k = some r) :
    ∃ a, k a len = some r ∧ a ≤ len ∧ ∀ {E : Env} {ob : Store} {μ : Mu} {w : World} {vlo : Option Value}, OR E ob μ w lo vlo →
      (vlo = none ∧ a = 0) ∨ ∃ v, vlo = some v ∧ ∀ code w', (Instr.sliceBound v len code).run P w' = .ok a w' := by
  unfold loK at h
  split at h
  · exact ⟨0, h, Nat.zero_le _, fun {E ob μ w vlo} ho => by cases vlo with | none => exact .inl ⟨rfl, rfl⟩ | some v => exact ho.elim⟩
  · rename_i a
    split at h
    · rename_i a' ha
      split at h
      · rename_i hb
        refine ⟨_, h, by omega, fun {E ob μ w vlo} ho => ?_⟩
        cases vlo with
        | none => exact ho.elim
        | some v => obtain ⟨j, rfl⟩ := VR.int? ha ho; exact .inr ⟨_, rfl, fun code w' => bound_run hb code w'⟩
      · cases h
    · cases h

/-- low and high of a slice expression, whatever the capacity is, if the length is not passed -/
theorem boundsK_sound {len : Nat} {lo hi mx : Option AV} {k : Nat → Nat → Option Rr} (h : boundsK len lo hi mx k = some r) :
    ∃ a b, k a b = some r ∧ a ≤ b ∧ b ≤ len ∧ ∀ {E : Env} {ob : Store} {μ : Mu} {w : World} {vlo vhi vmx : Option Value}, OR E ob μ w lo vlo → OR E ob μ w hi vhi → OR E ob μ w mx vmx →
      ∀ (isSlice : Bool) (cap : Nat), len ≤ cap → ∃ m, (∀ w', (Instr.sliceBounds isSlice len cap vlo vhi vmx).run P w' = .ok (a, b, m) w') ∧ b ≤ m ∧ m ≤ cap ∧ (mx = none → m = cap) := by
  unfold boundsK at h
  split at h
  · split at h
    · obtain ⟨a, h1, h2, h3⟩ := loK_sound (P := P) h
      refine ⟨a, len, h1, h2, Nat.le_refl _, fun {E ob μ w vlo vhi vmx} o1 o2 o3 isSlice cap hcap => ?_⟩
      cases vhi with
      | some v => exact o2.elim
      | none =>
        cases vmx with
        | some v => exact o3.elim
        | none =>
          refine ⟨cap, fun w' => ?_, hcap, Nat.le_refl _, fun _ => rfl⟩
          rcases h3 o1 with ⟨rfl, rfl⟩ | ⟨v, rfl, hr⟩
          · simp [Instr.sliceBounds]
          · simp [Instr.sliceBounds, hr]
    · rename_i b
      split at h
      · rename_i b' hb0
        split at h
        · rename_i hb
          obtain ⟨a, h1, h2, h3⟩ := loK_sound (P := P) h
          refine ⟨a, _, h1, h2, by omega, fun {E ob μ w vlo vhi vmx} o1 o2 o3 isSlice cap hcap => ?_⟩
          cases vhi with
          | none => exact o2.elim
          | some vb =>
            obtain ⟨j, rfl⟩ := VR.int? hb0 o2
            cases vmx with
            | some v => exact o3.elim
            | none =>
              refine ⟨cap, fun w' => ?_, by omega, Nat.le_refl _, fun _ => rfl⟩
              have hbr := fun code w' => bound_run (P := P) (j := j) (i := b') (y := cap) ⟨hb.1, by omega⟩ code w'
              rcases h3 o1 with ⟨rfl, rfl⟩ | ⟨v, rfl, hr⟩
              · simp [Instr.sliceBounds, hbr]
              · simp [Instr.sliceBounds, hbr, hr]
        · cases h
      · cases h
  · rename_i c
    split at h
    · rename_i c' b hc0
      split at h
      · rename_i b' hb0
        split at h
        · rename_i hc
          split at h
          · rename_i hb
            obtain ⟨a, h1, h2, h3⟩ := loK_sound (P := P) h
            refine ⟨a, _, h1, h2, by omega, fun {E ob μ w vlo vhi vmx} o1 o2 o3 isSlice cap hcap => ?_⟩
            cases vhi with
            | none => exact o2.elim
            | some vb =>
              obtain ⟨j, rfl⟩ := VR.int? hb0 o2
              cases vmx with
              | none => exact o3.elim
              | some vc =>
                obtain ⟨j', rfl⟩ := VR.int? hc0 o3
                have hcr := fun code w' => bound_run (P := P) (j := j') (i := c') (y := cap) ⟨hc.1, by omega⟩ code w'
                have hbr := fun code w' => bound_run (P := P) (j := j) (i := b') (y := c'.toNat) ⟨hb.1, by omega⟩ code w'
                refine ⟨c'.toNat, fun w' => ?_, by omega, by omega, fun h => by cases h⟩
                rcases h3 o1 with ⟨rfl, rfl⟩ | ⟨v, rfl, hr⟩
                · simp [Instr.sliceBounds, hbr, hcr]
                · simp [Instr.sliceBounds, hbr, hcr, hr]
          · cases h
        · cases h
      · cases h
    · cases h

end
end Go.Eng

/- The engine, part 15: data out of values, composite literals, lengths, slices of slices. -/
namespace Go.Eng

section
variable {P : Program} {C : Ctx} {Rr : Type} {r : Rr} {k : AV → Option Rr}

theorem plainV_sound : {x : AV} → {k : Bool → (t : Ty) → t.D → Option Rr} → plainV x k = some r →
    ∃ g t d, k g t d = some r ∧ ∀ {E : Env} {ob : Store} {μ : Mu} {w : World} {T : Ty} {cs : List Value}, CR E ob μ w x T cs → t = T ∧ R w (Sb E ob μ g) t d cs
  | .v g t d, k, h => ⟨g, t, d, h, fun hc => by simpa only [CR] using hc⟩
  | .ag l, k, h => by
    obtain ⟨g, t, d, h1, h2⟩ := plainV_sound (x := l) h
    exact ⟨g, t, d, h1, fun hc => by simp only [CR] at hc; exact h2 hc.2⟩
  | .nil, k, h => ⟨true, .unit, (), h, fun hc => by simp only [CR] at hc; exact ⟨hc.1.symm, by simp [R, hc.2]⟩⟩
  | .cons x y, k, h => by
    obtain ⟨g1, t1, d1, h1, h2⟩ := plainV_sound (x := x) h
    obtain ⟨g2, t2, d2, h3, h4⟩ := plainV_sound (x := y) h1
    refine ⟨_, _, _, h3, fun hc => ?_⟩
    simp only [CR] at hc
    obtain ⟨a, b, rfl, c1, c2⟩ := hc
    obtain ⟨rfl, r1⟩ := h2 c1
    obtain ⟨rfl, r2⟩ := h4 c2
    exact ⟨rfl, by simp only [R]; exact ⟨r1.weaken fun b hb => hb.and, r2.weaken fun b hb => hb.and'⟩⟩
  | .sl _, _, h | .sub .., _, h | .bs .., _, h | .pe .., _, h | .pb .., _, h | .pr .., _, h | .nl _, _, h | .nils, _, h | .clo .., _, h | .tup _, _, h | .dead, _, h => by simp [plainV] at h

theorem Shape.nonagg {v : Value} (h : v.cells = #[v]) {T : Ty} (ha : T.isAgg = false) : Shape T v := ⟨fun h => by simp [ha] at h, fun _ => h⟩

theorem VR.toSR {E : Env} {ob : Store} {μ : Mu} {w : World} {x : AV} {v : Value} (h : VR E ob μ w x v) (h1 : x ≠ .dead) (h2 : ∀ l, x ≠ .tup l) : SR E ob μ w x v := by
  cases x with
  | dead => exact (h1 rfl).elim
  | tup l => exact (h2 l rfl).elim
  | _ => exact h

theorem plainT_sound {T : Ty} {x : AV} {k : Bool → T.D → Option Rr} (h : plainT T x k = some r) :
    ∃ g d, k g d = some r ∧ ∀ {E : Env} {ob : Store} {μ : Mu} {w : World} {v : Value}, VR E ob μ w x v → R w (Sb E ob μ g) T d v.cells.toList ∧ Shape T v := by
  unfold plainT at h
  split at h
  · rename_i hx
    obtain rfl : x = .nils := by unfold AV.isNils at hx; split at hx <;> simp_all
    unfold nilsK at h
    split at h
    · refine ⟨true, [], h, fun {E ob μ w v} hv => ?_⟩
      obtain ⟨T', h1, _, h3⟩ := hv
      simp only [CR] at h1
      obtain ⟨⟨t', rfl⟩, e⟩ := h1
      have hv1 := h3 rfl
      rw [hv1] at e
      obtain rfl : v = .slice none 0 0 := by simpa using e
      refine ⟨?_, Shape.nonagg rfl rfl⟩
      simp only [R, Value.cells]
      exact ⟨none, 0, rfl, Nat.le_refl _, Nat.zero_le _, fun _ => rfl, fun x hx => by cases hx⟩
    · cases h
  · obtain ⟨g, t, d, h1, h2⟩ := plainV_sound h
    split at h1
    · rename_i ht; subst ht
      refine ⟨g, d, h1, fun {E ob μ w v} hv => ?_⟩
      have hsr : SR E ob μ w x v := hv.toSR (by rintro rfl; simp [plainV] at h) (by rintro l rfl; simp [plainV] at h)
      obtain ⟨T', c1, c2⟩ := hsr
      obtain ⟨rfl, c3⟩ := h2 c1
      exact ⟨c3, c2⟩
    · cases h1

theorem ok_len {n : Nat} (hn : n ≤ maxI) : ok .i64 (n : Int) := by
  simp [ok, IntKind.min, IntKind.max, IntKind.signed, IntKind.bits, maxI] at *; omega

theorem lenK_sound (hC : CtxT P C) {st : St} {T : TypeId} {x : AV} (h : lenK C st T x k = some r) :
    ∃ z, k z = some r ∧ ∀ {E : Env} {μ : Mu} {w : World} {v0 : Value} (ty : TypeId), Rel E st.ob μ w → VR E st.ob μ w x v0 → ∃ v, (∀ w', (Builtin.len_ #[T] ty #[v0]).run P w' = .ok v w') ∧ VR E st.ob μ w z v := by
  unfold lenK at h
  split at h
  · rename_i t hT
    obtain ⟨e, hu, he⟩ := (hC.tt _ _ hT).slElem
    have run : ∀ (ty : TypeId) (a : Option Addr) (n c : Nat) (w : World), (Builtin.len_ #[T] ty #[.slice a n c]).run P w = .ok (.int .i64 n) w := fun ty a n c w => by
      simp [Builtin.len_, run_underlying' hu, goInt]
    split at h
    · rename_i g t0 l
      split at h
      · exact ⟨_, h, fun ty _ hv => by obtain ⟨a, cap, rfl, _, hm, _⟩ := hv.vsl; exact ⟨_, fun w' => run _ _ _ _ w', VR.mkInt (ok_len hm)⟩⟩
      · cases h
    · rename_i n
      split at h
      · rename_i g t0 l ho
        refine ⟨_, h, fun ty hR hv => ?_⟩
        obtain ⟨g', t1, l', a1, rfl⟩ := hv.sl
        rw [ho] at a1
        simp only [Option.some.injEq, Obj.arr.injEq] at a1
        obtain ⟨rfl, rfl, a1⟩ := a1
        obtain rfl := eq_of_heq a1
        exact ⟨_, fun w' => run _ _ _ _ w', VR.mkInt (ok_len (objs_arr hR ho).2.1)⟩
      · cases h
    · rename_i n off len
      refine ⟨_, h, fun ty hR hv => ?_⟩
      obtain ⟨g', t1, l', o, cap, a1, a2, a3, a4, a5, rfl⟩ := hv.sub
      exact ⟨_, fun w' => run _ _ _ _ w', VR.mkInt (ok_len (by have := (objs_arr hR a1).2.1; omega))⟩
    · rename_i n q
      split at h
      · rename_i Tb y ho
        split at h
        · rename_i o0 m t1 hp
          split at h
          · rename_i hm
            refine ⟨_, h, fun ty hR hv => ?_⟩
            obtain ⟨T', c1, _, c3⟩ := hv
            simp only [CR] at c1
            obtain ⟨T1, x1, o1, m1, t2, y1, b1, b2, b3, rfl, e1⟩ := c1
            rw [c3 rfl] at e1
            rw [ho] at b1
            simp only [Option.some.injEq, Obj.box.injEq] at b1
            obtain ⟨rfl, rfl⟩ := b1
            rw [hp] at b2
            simp only [Option.some.injEq, Prod.mk.injEq, Ty.arr.injEq] at b2
            obtain ⟨_, rfl, _⟩ := b2
            simp only [List.cons.injEq, and_true] at e1
            subst e1
            exact ⟨_, fun w' => run _ _ _ _ w', VR.mkInt (ok_len hm)⟩
          · cases h
        · cases h
      · cases h
    · refine ⟨_, h, fun ty hR hv => ?_⟩
      obtain ⟨T', c1, _, c3⟩ := hv
      simp only [CR] at c1
      obtain ⟨⟨t', rfl⟩, e1⟩ := c1
      rw [c3 rfl] at e1
      simp only [List.cons.injEq, and_true] at e1
      subst e1
      exact ⟨_, fun w' => run _ _ _ _ w', VR.mkInt (ok_len (Nat.zero_le _))⟩
    · cases h
  · rename_i m t hT
    split at h
    · rename_i hm
      obtain ⟨e, hu, he⟩ := (hC.tt _ _ hT).arrElem
      exact ⟨_, h, fun ty hR hv => ⟨_, fun w' => by simp [Builtin.len_, run_underlying' hu, goInt], VR.mkInt (ok_len hm)⟩⟩
    · cases h
  · rename_i hT
    have hT' := hC.tt _ _ hT
    simp only [TOK] at hT'
    split at h
    · rename_i g s
      split at h
      · rename_i hm
        exact ⟨_, h, fun ty hR hv => by obtain rfl := hv.str; exact ⟨_, fun w' => by simp [Builtin.len_, run_underlying' hT'.2, goInt], VR.mkInt (ok_len hm)⟩⟩
      · cases h
    · cases h
  · cases h

theorem unK_sound {op : UnOp} {x : AV} (h : unK op x k = some r) :
    ∃ z, k z = some r ∧ ∀ {E : Env} {ob : Store} {μ : Mu} {w : World} {v0 : Value}, VR E ob μ w x v0 → ∃ v, (∀ w', (Op.unary op v0).run P w' = .ok v w') ∧ VR E ob μ w z v := by
  unfold unK at h
  split at h
  · exact ⟨_, h, fun hv => by obtain ⟨rfl, _⟩ := hv.int; exact ⟨_, fun w' => by simp [Op.unary, Op.intArith], VR.mkInt (ok_wrap _ _)⟩⟩
  · exact ⟨_, h, fun hv => by obtain ⟨rfl, _⟩ := hv.int; exact ⟨_, fun w' => by simp only [Op.unary]; rfl, VR.mkInt (ok_wrap _ _)⟩⟩
  · exact ⟨_, h, fun hv => by obtain rfl := hv.bool; exact ⟨_, fun w' => by simp [Op.unary], VR.mkBool⟩⟩
  · cases h

end
end Go.Eng

/- The engine, part 16: rows of elements, composite literals, slices of slices. -/
namespace Go.Eng

section
variable {P : Program} {C : Ctx} {Rr : Type} {r : Rr} {k : AV → Option Rr}

/-- elements in a row -/
def RowAt (w : World) (S : Nat → Prop) (t : Ty) (l : List t.D) (b off : Nat) : Prop :=
  ∀ i (h : i < l.length), ∃ es, R w S t l[i] es ∧ CellsAt w b (off + i * t.size) es
/-- the cells of elements, one after the other -/
def Row (w : World) (S : Nat → Prop) (t : Ty) (l : List t.D) (cs : List Value) : Prop :=
  cs.length = l.length * t.size ∧ ∀ i (h : i < l.length), R w S t l[i] ((cs.drop (i * t.size)).take t.size)

/-- flat data needs no block at all -/
theorem R.ofFlat {w : World} {S S' : Nat → Prop} : {t : Ty} → {d : t.D} → {cs : List Value} → t.flat = true → R w S t d cs → R w S' t d cs
  | .int _, _, _, _, h => by simpa only [R] using h
  | .bool, _, _, _, h => by simpa only [R] using h
  | .str, _, _, _, h => by simpa only [R] using h
  | .sl t, l, _, hf, h => by simp [Ty.flat] at hf
  | .arr _ t, l, _, hf, h => by
    simp only [Ty.flat] at hf
    simp only [R] at h ⊢
    exact ⟨h.1, h.2.1, fun i hi => R.ofFlat hf (h.2.2 i hi)⟩
  | .unit, _, _, _, h => by simpa only [R] using h
  | .pair a b, d, _, hf, h => by
    simp only [Ty.flat, Bool.and_eq_true] at hf
    simp only [R] at h ⊢
    exact ⟨R.ofFlat hf.1 h.1, R.ofFlat hf.2 h.2⟩
  | .opq _, _, _, _, h => by simp only [R] at h

theorem Row.norm {w : World} {E : Env} {ob : Store} {μ : Mu} {g : Bool} {t : Ty} {l : List t.D} {cs : List Value} (h : Row w (Sb E ob μ g) t l cs) : Row w (Sb E ob μ (g || t.flat)) t l cs := by
  by_cases hf : t.flat = true
  · exact ⟨h.1, fun i hi => (h.2 i hi).ofFlat hf⟩
  · have : (g || t.flat) = g := by cases g <;> simp [hf]
    rw [this]; exact h

theorem Row.snoc {w : World} {S : Nat → Prop} {t : Ty} {l : List t.D} {cs : List Value} (h : Row w S t l cs) {d : t.D} {es : List Value} (he : R w S t d es) :
    Row w S t (l ++ [d]) (cs ++ es) := by
  obtain ⟨h1, h2⟩ := h
  have hl := he.len
  refine ⟨by simp [h1, hl, Nat.succ_mul], fun i hi => ?_⟩
  simp only [List.length_append, List.length_singleton] at hi
  by_cases hc : i < l.length
  · have hm := mul_part (s := t.size) hc
    rw [List.getElem_append_left hc, List.drop_append_of_le_length (by omega), List.take_append_of_le_length (by simp; omega)]
    exact h2 i hc
  · obtain rfl : i = l.length := by omega
    rw [List.getElem_append_right (Nat.le_refl _), ← h1, List.drop_left, List.take_of_length_le (by omega)]
    simpa using he
theorem Row.append {w : World} {S : Nat → Prop} {t : Ty} {l : List t.D} {cs : List Value} (h : Row w S t l cs) : ∀ {m : List t.D} {ds : List Value}, Row w S t m ds → Row w S t (l ++ m) (cs ++ ds) := by
  intro m ds hm
  obtain ⟨h1, h2⟩ := h
  obtain ⟨h3, h4⟩ := hm
  refine ⟨by simp [h1, h3, Nat.add_mul], fun i hi => ?_⟩
  simp only [List.length_append] at hi
  by_cases hc : i < l.length
  · have hm := mul_part (s := t.size) hc
    rw [List.getElem_append_left hc, List.drop_append_of_le_length (by omega), List.take_append_of_le_length (by simp; omega)]
    exact h2 i hc
  · have e : i * t.size = cs.length + (i - l.length) * t.size := by rw [h1, ← Nat.add_mul]; congr 1; omega
    rw [List.getElem_append_right (by omega), e, ← List.drop_drop, List.drop_left]
    exact h4 (i - l.length) (by omega)
theorem Row.nil (w : World) (S : Nat → Prop) (t : Ty) : Row w S t [] [] := ⟨by simp, fun i h => by simp at h⟩
theorem Row.one {w : World} {S : Nat → Prop} {t : Ty} {l : List t.D} {cs : List Value} (h : Row w S t l cs) : ∀ v ∈ cs, v.oneCell' = true :=
  R.one (w := w) (S := S) (t := .arr l.length t) (d := l) (by simp only [R]; exact ⟨trivial, h.1, h.2⟩)
theorem Row.stay {w w' : World} {S S' : Nat → Prop} (hag : Agree S w w') (hs : ∀ b, S b → b < w.heap.size → S' b) (hz : w.heap.size ≤ w'.heap.size) {t : Ty} {l : List t.D} {cs : List Value}
    (h : Row w S t l cs) : Row w' S' t l cs := ⟨h.1, fun i hi => (h.2 i hi).stay hag hs hz⟩
theorem Row.weaken {w : World} {S S' : Nat → Prop} (hs : ∀ b, S b → S' b) {t : Ty} {l : List t.D} {cs : List Value} (h : Row w S t l cs) : Row w S' t l cs :=
  ⟨h.1, fun i hi => (h.2 i hi).weaken hs⟩
theorem Row.take {w : World} {S : Nat → Prop} {t : Ty} {l : List t.D} {cs : List Value} (h : Row w S t l cs) (n : Nat) : Row w S t (l.take n) (cs.take (n * t.size)) := by
  obtain ⟨h1, h2⟩ := h
  refine ⟨?_, fun i hi => ?_⟩
  · simp only [List.length_take, h1, Nat.mul_min_mul_right]
  · simp only [List.length_take] at hi
    have hm := mul_part (s := t.size) (show i < n by omega)
    rw [List.getElem_take, List.drop_take, List.take_take, Nat.min_eq_left (by omega)]
    exact h2 i (by omega)
theorem Row.drop {w : World} {S : Nat → Prop} {t : Ty} {l : List t.D} {cs : List Value} (h : Row w S t l cs) (n : Nat) : Row w S t (l.drop n) (cs.drop (n * t.size)) := by
  obtain ⟨h1, h2⟩ := h
  refine ⟨?_, fun i hi => ?_⟩
  · simp only [List.length_drop, h1, Nat.sub_mul]
  · simp only [List.length_drop] at hi
    rw [List.getElem_drop, List.drop_drop, ← Nat.add_mul]
    exact h2 (n + i) (by omega)

theorem RowAt.row {w : World} {S : Nat → Prop} {t : Ty} {b off : Nat} : ∀ {n : Nat} {l : List t.D}, l.length = n → RowAt w S t l b off → ∃ cs, Row w S t l cs ∧ CellsAt w b off cs := by
  intro n
  induction n with
  | zero =>
    intro l hl _
    obtain rfl := List.length_eq_zero_iff.1 hl
    exact ⟨[], Row.nil w S t, fun j hj => by simp at hj⟩
  | succ n ih =>
    intro l hl h
    obtain ⟨m, d, rfl⟩ : ∃ m d, l = m ++ [d] := ⟨l.dropLast, l.getLast (by intro e; simp [e] at hl), (List.dropLast_concat_getLast _).symm⟩
    simp at hl
    obtain ⟨cs, h1, h2⟩ := ih hl (fun i hi => by
      have := h i (by simp; omega)
      rwa [List.getElem_append_left hi] at this)
    obtain ⟨es, h3, h4⟩ := h m.length (by simp)
    rw [List.getElem_append_right (Nat.le_refl _)] at h3
    refine ⟨cs ++ es, h1.snoc (by simpa using h3), fun j hj => ?_⟩
    rw [← h1.1] at h4
    by_cases hc : j < cs.length
    · rw [List.getElem_append_left hc]; exact h2 j hc
    · rw [List.getElem_append_right (by omega)]
      simp only [List.length_append] at hj
      have := h4 (j - cs.length) (by omega)
      rwa [show off + cs.length + (j - cs.length) = off + j by omega] at this
theorem Row.at {w : World} {S : Nat → Prop} {t : Ty} {b off : Nat} {l : List t.D} {cs : List Value} (h : Row w S t l cs) (hc : CellsAt w b off cs) : RowAt w S t l b off :=
  fun i hi => ⟨_, h.2 i hi, hc.sub⟩

/-- what elemsK tells of a slice -/
theorem elemsK_sound {ob : Store} {t : Ty} {x : AV} {k : Bool → List t.D → Option Rr} (h : elemsK ob t x k = some r) :
    ∃ g l, k g l = some r ∧ ∀ {E : Env} {μ : Mu} {w : World} {v : Value}, Rel E ob μ w → VR E ob μ w x v →
      ∃ a cap, v = .slice a l.length cap ∧ l.length ≤ maxI ∧ (a = none → l = []) ∧ ∀ y, a = some y → 0 < l.length → y.spot = none ∧ RowAt w (Sb E ob μ g) t l y.block y.off := by
  unfold elemsK at h
  split at h
  · refine ⟨_, _, h, fun hR hv => ?_⟩
    obtain ⟨T', c1, _, c3⟩ := hv
    simp only [CR] at c1
    obtain ⟨⟨t', rfl⟩, e1⟩ := c1
    rw [c3 rfl] at e1
    simp only [List.cons.injEq, and_true] at e1
    exact ⟨none, 0, e1, Nat.zero_le _, fun _ => rfl, fun y hy => by cases hy⟩
  · rename_i g t' l
    split at h
    · rename_i ht; subst ht
      refine ⟨g, l, h, fun hR hv => ?_⟩
      obtain ⟨a, cap, rfl, h1, h2, h3, h4⟩ := hv.vsl
      refine ⟨a, cap, rfl, h2, fun ha => ?_, fun y hy hp => ⟨(h4 y hy hp).1, (h4 y hy hp).2.2.2⟩⟩
      have := h3 ha
      exact List.length_eq_zero_iff.1 (by omega)
    · cases h
  · rename_i n
    split at h
    · rename_i g t' l ho
      split at h
      · rename_i ht; subst ht
        refine ⟨g, l, h, fun hR hv => ?_⟩
        obtain ⟨g', t1, l', a1, rfl⟩ := hv.sl
        rw [ho] at a1
        simp only [Option.some.injEq, Obj.arr.injEq] at a1
        obtain ⟨rfl, rfl, a1⟩ := a1
        obtain rfl := eq_of_heq a1
        obtain ⟨b1, b2, b3, b4⟩ := objs_arr hR ho
        refine ⟨_, _, rfl, b2, fun ha => ?_, fun y hy _ => ⟨(b4 y hy).1, (b4 y hy).2.2⟩⟩
        have := b3 ha
        exact List.length_eq_zero_iff.1 (by omega)
      · cases h
    · cases h
  · rename_i n off len
    split at h
    · rename_i g t' l ho
      split at h
      · rename_i ht; subst ht
        refine ⟨g, (l.drop off).take len, h, fun {E μ w v} hR hv => ?_⟩
        obtain ⟨g', t1, l', o, cap, a1, a2, a3, a4, a5, rfl⟩ := hv.sub
        rw [ho] at a1
        simp only [Option.some.injEq, Obj.arr.injEq] at a1
        obtain ⟨rfl, rfl, a1⟩ := a1
        obtain rfl := eq_of_heq a1
        obtain ⟨b1, b2, b3, b4⟩ := objs_arr hR ho
        have hlen : ((l.drop off).take len).length = len := by simp; omega
        refine ⟨(μ.addr n).map fun x => ⟨x.block, o, none⟩, cap, by simp only [hlen], by simp only [hlen]; omega, fun ha => ?_, fun y hy _ => ?_⟩
        · have := a4 (by simpa using ha)
          exact List.length_eq_zero_iff.1 (by rw [hlen]; omega)
        · cases ha : μ.addr n with
          | none => simp [ha] at hy
          | some x =>
            simp only [ha, Option.map_some, Option.some.injEq] at hy
            subst hy
            refine ⟨rfl, fun i hi => ?_⟩
            simp only [hlen] at hi
            obtain ⟨es, e1, e2⟩ := (b4 x ha).2.2 (off + i) (by omega)
            refine ⟨es, by simpa [List.getElem_take, List.getElem_drop] using e1, ?_⟩
            rw [a5 (by omega) x ha, Nat.add_assoc, ← Nat.add_mul]
            exact e2
      · cases h
    · cases h
  · rename_i n q
    split at h
    · rename_i T0 g t0 d ho
      obtain ⟨t', d', o, h1, h2, h3, h4⟩ := gets_sound h
      split at h1
      · rename_i m t'' l
        split at h1
        · rename_i ht; subst ht
          split at h1
          · rename_i hm
            refine ⟨g, l, h1, fun {E μ w v} hR hv => ?_⟩
            obtain ⟨T', c1, _, c3⟩ := hv
            simp only [CR] at c1
            obtain ⟨T1, x1, o1, m1, t2, y1, b1, b2, b3, rfl, e1⟩ := c1
            rw [c3 rfl] at e1
            rw [ho] at b1
            simp only [Option.some.injEq, Obj.box.injEq] at b1
            obtain ⟨rfl, rfl⟩ := b1
            obtain ⟨y', cs, d1, d2, d3, d4, d5⟩ := hR.objs n _ ho
            rw [b3] at d1
            obtain rfl := Option.some.inj d1
            simp only [CR] at d3
            obtain ⟨rfl, d3⟩ := d3
            rw [h2] at b2
            simp only [Option.some.injEq, Prod.mk.injEq, Ty.arr.injEq] at b2
            obtain ⟨rfl, rfl, rfl⟩ := b2
            have hr := h4 d3
            simp only [R] at hr
            obtain ⟨hl, hcl, hel⟩ := hr
            simp only [List.cons.injEq, and_true] at e1
            subst e1
            refine ⟨_, m, congrArg (fun z => Value.slice _ z m) hl.symm, by rw [hl]; exact hm, ?_, ?_⟩
            · intro ha; cases ha
            · intro y hy _
              simp only [Option.some.injEq] at hy
              subst hy
              refine ⟨rfl, fun i hi => ⟨_, hel i hi, ?_⟩⟩
              exact (d4.sub (o := o) (s := (Ty.arr m t'').size)).sub
          · cases h1
        · cases h1
      · cases h1
    · cases h
  · cases h

end
end Go.Eng

/- The engine, part 17: composite literals; slices of slices; minimum and maximum. -/
namespace Go.Eng

section
variable {P : Program} {C : Ctx} {Rr : Type} {r : Rr} {k : AV → Option Rr}

theorem foldl_set : ∀ (vs : List Value) (cs : Array Value) (off j : Nat), off + j + vs.length ≤ cs.size →
    ((vs.zipIdx j).foldl (fun cs (c, j) => cs.setIfInBounds (off + j) c) cs).toList = cs.toList.take (off + j) ++ vs ++ cs.toList.drop (off + j + vs.length)
  | [], cs, off, j, _ => by simp
  | v :: vs, cs, off, j, h => by
    simp only [List.length_cons] at h
    rw [List.zipIdx_cons, List.foldl_cons, foldl_set vs _ off (j + 1) (by simp; omega)]
    simp only [Array.toList_setIfInBounds, List.length_cons]
    have hsz : cs.toList.length = cs.size := by simp
    apply List.ext_getElem?
    intro i
    rw [show off + (j + 1) + vs.length = off + (j + 1) + vs.length from rfl]
    rw [upd_get (e := vs.length) rfl (by simp; omega)]
    rw [show off + j + (vs.length + 1) = off + j + (v :: vs).length from by simp, upd_get (cs := cs.toList) (es := v :: vs) (e := (v :: vs).length) rfl (by simp; omega)]
    simp only [List.length_cons, List.getElem?_set]
    by_cases h1 : i < off + j
    · rw [if_pos (show i < off + (j + 1) by omega), if_pos h1, if_neg (by omega)]
    · rw [if_neg h1]
      by_cases h2 : i = off + j
      · subst h2
        rw [if_pos (by omega), if_pos rfl, if_pos (by omega), if_pos (by omega)]
        simp
      · rw [if_neg (show ¬ i < off + (j + 1) by omega)]
        by_cases h3 : i < off + j + (vs.length + 1)
        · rw [if_pos (by omega), if_pos h3, show i - (off + j) = (i - (off + (j + 1))) + 1 by omega, List.getElem?_cons_succ]
        · rw [if_neg (by omega), if_neg h3, if_neg (by omega)]

/-- one part of a composite literal -/
theorem fill_step {place : Nat → Option (Nat × Nat)} {cells : Array Value} {i off size : Nat} {v : Value} {rest : List (Nat × Value)} (hp : place i = some (off, size))
    (hv : v.cells.toList.length = size) (ho : off + size ≤ cells.size) :
    ∃ cells', Instr.fill place cells ((i, v) :: rest) = Instr.fill place cells' rest ∧ cells'.toList = cells.toList.take off ++ v.cells.toList ++ cells.toList.drop (off + size) := by
  refine ⟨v.cells.zipIdx.foldl (fun cs (c, j) => cs.setIfInBounds (off + j) c) cells, ?_, ?_⟩
  · have h1 : v.cells.size = size := by simpa using hv
    rw [Instr.fill, hp]
    simp only [h1, ne_eq, not_true_eq_false, decide_false, Bool.false_or, decide_eq_true_eq]
    rw [if_neg (by omega)]
  · rw [← Array.foldl_toList]
    have := foldl_set v.cells.toList cells off 0 (by simp at hv ⊢; omega)
    simp only [Nat.add_zero] at this
    rw [show v.cells.zipIdx.toList = v.cells.toList.zipIdx by simp, this, hv]

def PartsR (E : Env) (ob : Store) (μ : Mu) (w : World) : List (Nat × AV) → List (Nat × Value) → Prop
  | [], [] => True
  | (i, a) :: l, (j, v) :: m => i = j ∧ VR E ob μ w a v ∧ PartsR E ob μ w l m
  | _, _ => False

theorem listK_sound {t : Ty} : ∀ {parts : List (Nat × AV)} {l0 : List t.D} {g0 : Bool} {k : Bool → List t.D → Option Rr}, listK t l0 parts g0 k = some r →
    ∃ g l, k g l = some r ∧ l.length = l0.length ∧ ∀ {E : Env} {ob : Store} {μ : Mu} {w : World} {vs : List (Nat × Value)} {cells : Array Value}, PartsR E ob μ w parts vs →
      Row w (Sb E ob μ g0) t l0 cells.toList → ∃ cells', Instr.fill (fun i => some (i * t.size, t.size)) cells vs = some cells' ∧ Row w (Sb E ob μ g) t l cells'.toList
  | [], l0, g0, k, h => by
    rw [listK] at h
    refine ⟨g0, l0, h, rfl, fun {E ob μ w vs cells} hp hr => ?_⟩
    cases vs with
    | nil => exact ⟨cells, rfl, hr⟩
    | cons a b => exact hp.elim
  | (i, a) :: rest, l0, g0, k, h => by
    rw [listK] at h
    split at h
    · rename_i hi
      obtain ⟨g', d, h1, h2⟩ := plainT_sound h
      obtain ⟨g, l, h3, h4, h5⟩ := listK_sound h1
      refine ⟨g, l, h3, by simpa using h4, fun {E ob μ w vs cells} hp hr => ?_⟩
      cases vs with
      | nil => exact hp.elim
      | cons x vs =>
        obtain ⟨j, v⟩ := x
        obtain ⟨rfl, hv, hp⟩ := hp
        obtain ⟨hrv, _⟩ := h2 hv
        have hm := mul_part (s := t.size) hi
        have hcs : cells.toList.length = l0.length * t.size := hr.1
        obtain ⟨cells1, e1, e2⟩ := fill_step (place := fun i => some (i * t.size, t.size)) (i := i) (off := i * t.size) (size := t.size) (cells := cells) (rest := vs) rfl hrv.len (by simp at hcs; omega)
        rw [e1]
        refine h5 hp ?_
        rw [e2]
        refine ⟨by rw [upd_len hrv.len (by omega), hcs]; simp, fun j hj => ?_⟩
        simp only [List.length_set] at hj
        by_cases hji : j = i
        · subst hji
          rw [List.getElem_set_self, upd_mid hrv.len (by omega)]
          exact hrv.weaken fun b hb => hb.and'
        · have hjm := mul_part (s := t.size) hj
          rw [List.getElem_set_ne (Ne.symm hji), upd_apart hrv.len (by omega) (by
            rcases Nat.lt_or_gt_of_ne hji with hlt | hgt
            · have := mul_part (s := t.size) hlt; omega
            · have := mul_part (s := t.size) hgt; omega)]
          exact (hr.2 j hj).weaken fun b hb => hb.and
    · cases h

theorem zero_row (w : World) (S : Nat → Prop) {t : Ty} (ht : t.plain = true) (n : Nat) : Row w S t (List.replicate n t.zero) (List.replicate n t.zeros).flatten := by
  have := R.zero w S (.arr n t) (by simpa [Ty.plain] using ht)
  simp only [R, Ty.zero, Ty.zeros] at this
  exact ⟨by rw [this.2.1]; simp, this.2.2⟩

/-! ### literals of structs -/

theorem typed_VR {E : Env} {ob : Store} {μ : Mu} {w : World} {t : Ty} {a : AV} {v : Value} (h : VR E ob μ w a v) : VR E ob μ w (typed t a) v := by
  unfold typed
  split
  · rename_i hx
    obtain rfl : a = .nils := by unfold AV.isNils at hx; split at hx <;> simp_all
    split
    · obtain ⟨T', h1, _, h3⟩ := h
      simp only [CR] at h1
      obtain ⟨⟨t', rfl⟩, e⟩ := h1
      have hv1 := h3 rfl
      rw [hv1] at e
      obtain rfl : v = .slice none 0 0 := by simpa using e
      exact VR.v_iff.2 ⟨by simp only [R, Value.cells]; exact ⟨none, 0, rfl, Nat.le_refl _, Nat.zero_le _, fun _ => rfl, fun x hx => by cases hx⟩, Shape.nonagg rfl rfl⟩
    · exact h
  · exact h

theorem setNth_isL : {l : AV} → {T : Ty} → {i : Nat} → {a : AV} → l.isL T = true → (l.setNth i a).isL T = true
  | .cons h t, .pair x y, 0, a, hl => by simpa [AV.setNth, AV.isL] using hl
  | .cons h t, .pair x y, i + 1, a, hl => by simp only [AV.setNth, AV.isL] at hl ⊢; exact setNth_isL hl
  | .nil, .unit, _, _, hl => by simpa [AV.setNth] using hl
  | .cons _ _, .int _, _, _, hl | .cons _ _, .bool, _, _, hl | .cons _ _, .str, _, _, hl | .cons _ _, .sl _, _, _, hl | .cons _ _, .arr .., _, _, hl | .cons _ _, .unit, _, _, hl | .cons _ _, .opq _, _, _, hl => by simp [AV.isL] at hl
  | .nil, .int _, _, _, hl | .nil, .bool, _, _, hl | .nil, .str, _, _, hl | .nil, .sl _, _, _, hl | .nil, .arr .., _, _, hl | .nil, .pair .., _, _, hl | .nil, .opq _, _, _, hl => by simp [AV.isL] at hl
  | .v .., _, _, _, hl | .sl _, _, _, _, hl | .sub .., _, _, _, hl | .bs .., _, _, _, hl | .pe .., _, _, _, hl | .pb .., _, _, _, hl | .pr .., _, _, _, hl | .nl _, _, _, _, hl | .nils, _, _, _, hl
  | .clo .., _, _, _, hl | .ag _, _, _, _, hl | .tup _, _, _, _, hl | .dead, _, _, _, hl => by simp [AV.isL] at hl

theorem setNth_sound {E : Env} {ob : Store} {μ : Mu} {w : World} : {l : AV} → {T : Ty} → {cs : List Value} → {i o : Nat} → {tf : Ty} → {a : AV} → {es : List Value} → l.isL T = true →
    CR E ob μ w l T cs → pathOff T [.fld i] = some (o, tf) → CR E ob μ w a tf es → o + tf.size ≤ T.size ∧ CR E ob μ w (l.setNth i a) T (cs.take o ++ es ++ cs.drop (o + tf.size))
  | .cons x y, .pair a0 b0, cs, i, o, tf, a, es, hl, h, hp, ha => by
    have hcl := h.len
    have hel := ha.len
    simp only [Ty.size] at hcl
    simp only [CR] at h
    obtain ⟨a', b', e, h1, h2⟩ := h
    simp only [Ty.pair.injEq] at e
    obtain ⟨rfl, rfl⟩ := e
    cases i with
    | zero =>
      rw [pathOff.eq_2, pathOff.eq_1] at hp
      simp only [Option.some.injEq, Prod.mk.injEq] at hp
      obtain ⟨rfl, rfl⟩ := hp
      refine ⟨by simp only [Ty.size]; omega, ?_⟩
      simp only [AV.setNth, CR]
      refine ⟨_, _, rfl, ?_, ?_⟩
      · simpa [List.take_left' hel] using ha
      · simpa [List.drop_left' hel] using h2
    | succ i =>
      simp only [AV.isL] at hl
      rw [pathOff.eq_3] at hp
      cases hq : pathOff b0 [.fld i] with
      | none => simp [hq] at hp
      | some z =>
        obtain ⟨o', t'⟩ := z
        simp only [hq, Option.map_some, Option.some.injEq, Prod.mk.injEq] at hp
        obtain ⟨rfl, rfl⟩ := hp
        obtain ⟨g1, g2⟩ := setNth_sound hl h2 hq ha
        refine ⟨by simp only [Ty.size]; omega, ?_⟩
        simp only [AV.setNth, CR]
        refine ⟨_, _, rfl, ?_, ?_⟩
        · have e := upd_apart (cs := cs) (es := es) (p := a0.size + o') (q := 0) (s := a0.size) hel (by omega) (.inl (by omega))
          simp only [List.drop_zero] at e
          rw [e]; exact h1
        · have e := upd_around (cs := cs) (es := es) (p := a0.size + o') (q := a0.size) (s := b0.size) hel (by omega) (by omega) (by omega) (by omega)
          rw [List.take_of_length_le (l := (cs.take (a0.size + o') ++ es ++ cs.drop (a0.size + o' + t'.size)).drop a0.size) (by rw [List.length_drop, upd_len hel (by omega)]; omega), List.take_of_length_le (l := cs.drop a0.size) (by rw [List.length_drop]; omega), Nat.add_sub_cancel_left] at e
          rw [e]; exact g2
  | .cons _ _, .int _, _, _, _, _, _, _, hl, _, _, _ | .cons _ _, .bool, _, _, _, _, _, _, hl, _, _, _ | .cons _ _, .str, _, _, _, _, _, _, hl, _, _, _ | .cons _ _, .sl _, _, _, _, _, _, _, hl, _, _, _ | .cons _ _, .arr .., _, _, _, _, _, _, hl, _, _, _
  | .cons _ _, .unit, _, _, _, _, _, _, hl, _, _, _ | .cons _ _, .opq _, _, _, _, _, _, _, hl, _, _, _ => by simp [AV.isL] at hl
  | .nil, T, _, i, _, _, _, _, hl, _, hp, _ => by cases T <;> first | (simp [AV.isL] at hl; done) | (cases i <;> simp [pathOff] at hp)
  | .v .., _, _, _, _, _, _, _, hl, _, _, _ | .sl _, _, _, _, _, _, _, _, hl, _, _, _ | .sub .., _, _, _, _, _, _, _, hl, _, _, _ | .bs .., _, _, _, _, _, _, _, hl, _, _, _ | .pe .., _, _, _, _, _, _, _, hl, _, _, _
  | .pb .., _, _, _, _, _, _, _, hl, _, _, _ | .pr .., _, _, _, _, _, _, _, hl, _, _, _ | .nl _, _, _, _, _, _, _, _, hl, _, _, _ | .nils, _, _, _, _, _, _, _, hl, _, _, _
  | .clo .., _, _, _, _, _, _, _, hl, _, _, _ | .ag _, _, _, _, _, _, _, _, hl, _, _, _ | .tup _, _, _, _, _, _, _, _, hl, _, _, _ | .dead, _, _, _, _, _, _, _, hl, _, _, _ => by simp [AV.isL] at hl

mutual
theorem zeroAV_CR (E : Env) (ob : Store) (μ : Mu) (w : World) : (t : Ty) → t.spineOk = true → CR E ob μ w (zeroAV t) t t.zeros
  | .int k, _ => by simp only [zeroAV, CR]; exact ⟨trivial, R.zero w _ (.int k) rfl⟩
  | .bool, _ => by simp only [zeroAV, CR]; exact ⟨trivial, R.zero w _ .bool rfl⟩
  | .str, _ => by simp only [zeroAV, CR]; exact ⟨trivial, R.zero w _ .str rfl⟩
  | .sl t, _ => by simp only [zeroAV, CR]; exact ⟨trivial, R.zero w _ (.sl t) rfl⟩
  | .unit, _ => by simp only [zeroAV, CR]; exact ⟨trivial, R.zero w _ .unit rfl⟩
  | .opq k, _ => by simp only [zeroAV, CR]; exact ⟨trivial, rfl⟩
  | .arr n t, _ => by
    simp only [zeroAV]
    split
    · rename_i h; simp only [CR]; exact ⟨trivial, R.zero w _ (.arr n t) h⟩
    · simp only [CR]; exact Ty.zeros_len _
  | .pair a b, h => by
    simp only [zeroAV]
    split
    · rename_i h; simp only [CR]; exact ⟨trivial, R.zero w _ (.pair a b) h⟩
    · simp only [CR]
      simp only [Ty.spineOk, Bool.and_eq_true] at h
      refine ⟨⟨a, b, rfl⟩, a, b, rfl, ?_, ?_⟩
      · simp only [Ty.zeros]; rw [← a.zeros_len, List.take_left]; exact zeroAV_CR E ob μ w a h.1.1
      · simp only [Ty.zeros]; rw [← a.zeros_len, List.drop_left]; exact (zeroL_CR E ob μ w b h.1.2 h.2).1
theorem zeroL_CR (E : Env) (ob : Store) (μ : Mu) (w : World) : (t : Ty) → t.spine = true → t.spineOk = true → CR E ob μ w (zeroL t) t t.zeros ∧ (zeroL t).isL t = true
  | .unit, _, _ => by simp [zeroL, CR, Ty.zeros, AV.isL]
  | .pair a b, hs, h => by
    simp only [Ty.spineOk, Bool.and_eq_true] at h
    simp only [zeroL, CR, Ty.zeros, AV.isL]
    have hb := zeroL_CR E ob μ w b h.1.2 h.2
    refine ⟨⟨a, b, rfl, ?_, ?_⟩, hb.2⟩
    · rw [← a.zeros_len, List.take_left]; exact zeroAV_CR E ob μ w a h.1.1
    · rw [← a.zeros_len, List.drop_left]; exact hb.1
  | .int _, hs, _ | .bool, hs, _ | .str, hs, _ | .sl _, hs, _ | .arr .., hs, _ | .opq _, hs, _ => by simp [Ty.spine] at hs
end

end
end Go.Eng

