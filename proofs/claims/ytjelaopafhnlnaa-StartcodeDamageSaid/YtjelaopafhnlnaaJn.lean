/- What functions of the program compute, and that the printed trees compute it. -/
import Derived.Test.YtjelaopafhnlnaaSc
set_option linter.unusedVariables false
set_option maxRecDepth 100000
namespace Go.Proofs.Ytjelaopafhnlnaa
open Go Go.Eng Go.Proofs
/-! ### units one after the other -/
/-- zeros ahead of unit i -/
def padOf (pads : List Int) (i : Nat) : Nat := if i < pads.length ∧ 0 < pads.getD i 0 then ((pads.getD i 0).tmod 8).toNat else 0
/-- a unit's bytes -/
def fmt (u : D_api_Unit) : List Int := (startcode_Format_S u).2
def joinB (pads : List Int) : Nat → List D_api_Unit → List Int
  | _, [] => []
  | i, u :: r => List.replicate (padOf pads i) 0 ++ (fmt u ++ joinB pads (i + 1) r)
def joinW (pads : List Int) : Nat → Int → List D_api_Unit → List D_startcode_Found
  | _, _, [] => []
  | i, off, u :: r => (u, off + padOf pads i, off + padOf pads i + (fmt u).length, 0, ()) :: joinW pads (i + 1) (off + padOf pads i + (fmt u).length) r
def setN (n : Int) (f : D_startcode_Found) : D_startcode_Found := (f.1, f.2.1, f.2.2.1, n, ())
def nextW (n : Int) : List D_startcode_Found → List D_startcode_Found
  | [] => []
  | f :: r => setN (match r with
    | [] => n
    | g :: _ => g.2.1) f :: nextW n r
def shiftF (x : Int) (f : D_startcode_Found) : D_startcode_Found := (f.1, f.2.1 + x, f.2.2.1 + x, f.2.2.2.1 + x, ())

def cutroomlaw03_joined_L4_pre (l1 : List D_api_Unit) (_ : List Int) (i : Int) (b : List Int) (out : List D_startcode_Found) : Prop :=
  0 ≤ i ∧ i ≤ l1.length ∧ l1.length ≤ 20 ∧ l1.all okUnit = true ∧ (b.length : Int) ≤ 300 * i ∧ (out.length : Int) ≤ i
def cutroomlaw03_joined_L4_mu (l1 : List D_api_Unit) (_ : List Int) (i : Int) (_ : List Int) (_ : List D_startcode_Found) : Nat := (l1.length - i).toNat
def cutroomlaw03_joined_L4_S (l1 : List D_api_Unit) (pads2 : List Int) (i : Int) (b : List Int) (out : List D_startcode_Found) : (Bool × List Int × List D_startcode_Found × List Int × List D_startcode_Found) ⊕ (List Int × List D_startcode_Found) :=
  .inr (b ++ joinB pads2 i.toNat (l1.drop i.toNat), out ++ joinW pads2 i.toNat b.length (l1.drop i.toNat))
def cutroomlaw03_joined_L14_pre (_ : List Int) (i54 : Int) (out56 : List D_startcode_Found) : Prop := 0 ≤ i54 ∧ i54 ≤ out56.length ∧ out56.length ≤ 20
def cutroomlaw03_joined_L14_mu (_ : List Int) (i54 : Int) (out56 : List D_startcode_Found) : Nat := (out56.length - i54).toNat
def cutroomlaw03_joined_L14_S (b55 : List Int) (i54 : Int) (out56 : List D_startcode_Found) : List D_startcode_Found := out56.take i54.toNat ++ nextW b55.length (out56.drop i54.toNat)
def cutroomlaw03_joined_pre (l : List D_api_Unit) (_ : List Int) : Prop := l.length ≤ 20 ∧ l.all okUnit = true
def cutroomlaw03_joined_S (l : List D_api_Unit) (pads : List Int) : Bool × List Int × List D_startcode_Found :=
  (true, joinB pads 0 l, nextW (joinB pads 0 l).length (joinW pads 0 0 l))
def cutroomlaw03_StartcodeBack_L10_pre (want : List D_startcode_Found) (got : List D_startcode_Found) (i : Int) : Prop := want = got ∧ 0 ≤ i
def cutroomlaw03_StartcodeBack_L10_mu (_ : List D_startcode_Found) (got : List D_startcode_Found) (i : Int) : Nat := (got.length - i).toNat
def cutroomlaw03_StartcodeBack_L10_S (_ : List D_startcode_Found) (_ : List D_startcode_Found) (_ : Int) : (Bool) ⊕ (Unit) := .inr ()
def cutroomlaw03_StartcodeBack_pre (_ : List D_api_Unit) (_ : List Int) : Prop := True
def cutroomlaw03_StartcodeBack_S (_ : List D_api_Unit) (_ : List Int) : Bool := true
def cutroomlaw03_StartcodeResync_L11_pre (x22 : List Int) (gotOff : Nat) (gotLen : Nat) (want : List D_startcode_Found) (got : List D_startcode_Found) (i : Int) : Prop :=
  0 ≤ i ∧ gotLen = want.length ∧ got.drop gotOff = want.map (shiftF x22.length) ∧ (x22.length : Int) ≤ 200 ∧ ∀ f ∈ want, (0 ≤ f.2.1 ∧ f.2.1 ≤ 10000) ∧ (0 ≤ f.2.2.1 ∧ f.2.2.1 ≤ 10000) ∧ (0 ≤ f.2.2.2.1 ∧ f.2.2.2.1 ≤ 10000)
def cutroomlaw03_StartcodeResync_L11_mu (_ : List Int) (_ : Nat) (gotLen : Nat) (_ : List D_startcode_Found) (_ : List D_startcode_Found) (i : Int) : Nat := (gotLen - i).toNat
def cutroomlaw03_StartcodeResync_L11_S (_ : List Int) (_ : Nat) (_ : Nat) (_ : List D_startcode_Found) (_ : List D_startcode_Found) (_ : Int) : (Bool) ⊕ (Unit) := .inr ()
def cutroomlaw03_StartcodeResync_pre (_ : List Int) (_ : List D_api_Unit) : Prop := True
def cutroomlaw03_StartcodeResync_S (_ : List Int) (_ : List D_api_Unit) : Bool := true
def cutroomlaw03_StartcodeDamage_L20_pre (_ : Int) (i38 : Int) (want39 : List D_startcode_Found) (_ : List D_startcode_Found) (_ : Bool) (j : Int) : Prop := 0 ≤ i38 ∧ i38 < want39.length ∧ 0 ≤ j
def cutroomlaw03_StartcodeDamage_L20_mu (_ : Int) (_ : Int) (_ : List D_startcode_Found) (got40 : List D_startcode_Found) (_ : Bool) (j : Int) : Nat := (got40.length - j).toNat
noncomputable def cutroomlaw03_StartcodeDamage_L20_S (_ : Int) (i38 : Int) (want39 : List D_startcode_Found) (got40 : List D_startcode_Found) (found : Bool) (j : Int) : Bool :=
  found || (got40.drop j.toNat).any fun f => cutroomlaw03_same_S f (want39.getD i38.toNat Z_startcode_Found)
def cutroomlaw03_StartcodeDamage_L15_pre (k33 : Int) (want : List D_startcode_Found) (got : List D_startcode_Found) (i : Int) : Prop :=
  0 ≤ i ∧ want.length ≤ 20 ∧ ∀ m : Nat, m < want.length → (m : Int) ≠ k33 → want.getD m Z_startcode_Found ∈ got
def cutroomlaw03_StartcodeDamage_L15_mu (_ : Int) (want : List D_startcode_Found) (_ : List D_startcode_Found) (i : Int) : Nat := (want.length - i).toNat
def cutroomlaw03_StartcodeDamage_L15_S (_ : Int) (_ : List D_startcode_Found) (_ : List D_startcode_Found) (_ : Int) : (Bool) ⊕ (Unit) := .inr ()
def cutroomlaw03_StartcodeDamage_pre (_ : List D_api_Unit) (_ : Int) (_ : Int) (_ : Int) : Prop := True
def cutroomlaw03_StartcodeDamage_S (_ : List D_api_Unit) (_ : Int) (_ : Int) (_ : Int) : Bool := true

noncomputable def cutroomlaw03_joined_J8_T {R : Type} (ex0 : Bool → (List Int) → (List D_startcode_Found) → (Option R)) (ex1 : (List Int) → (List D_startcode_Found) → (List Int) → (Option R)) (l12 : List D_api_Unit) (pads13 : List Int) (i14 : Int) (b15 : List Int) (out16 : List D_startcode_Found) : Option R :=
  if (0 : Int) ≤ i14 ∧ i14 < (l12.length : Int) then
    lett (l12.getD i14.toNat Z_api_Unit) fun x17 =>
    need (startcode_Format_pre x17) <|
    lett (startcode_Format_S x17) fun res1 =>
    if (res1.1 != 0) = true then
      ex0 false [] []
    else
      if (0 : Int) ≤ i14 ∧ i14 < (l12.length : Int) then
        lett (((l12.getD i14.toNat Z_api_Unit), ((b15.length : Int), ((wi64 ((b15.length : Int) + (res1.2.length : Int))), (0, ()))))) fun x24 =>
        if 0 < 56 ∧ (out16.length + [x24].length) * 56 ≤ room then
          if 0 < 1 ∧ (b15.length + res1.2.length) * 1 ≤ room then
            ex1 (b15 ++ res1.2) (out16 ++ [x24]) res1.2
          else
            none
        else
          none
      else
        none
  else
    none

noncomputable def cutroomlaw03_joined_L4_T {R : Type} (l1 : List D_api_Unit) (pads2 : List Int) (rec : Int → (List Int) → (List D_startcode_Found) → (Option R)) (ex0 : Bool → (List Int) → (List D_startcode_Found) → (List Int) → (List D_startcode_Found) → (Option R)) (ex1 : (List Int) → (List D_startcode_Found) → (Option R)) (i : Int) (b : List Int) (out : List D_startcode_Found) : Option R :=
  if (decide (i < (l1.length : Int))) = true then
    if (decide (i < (pads2.length : Int))) = true then
      if (0 : Int) ≤ i ∧ i < (pads2.length : Int) then
        if (decide ((pads2.getD i.toNat 0) > 0)) = true then
          if (0 : Int) ≤ i ∧ i < (pads2.length : Int) then
            lett ((pads2.getD i.toNat 0).tmod 8) fun x9 =>
            if 0 ≤ x9 then
              lett (List.replicate x9.toNat 0) fun x10 =>
              if 0 < 1 ∧ (b.length + x10.length) * 1 ≤ room then
                cutroomlaw03_joined_J8_T
                  (fun x27 o28 o29 =>
                    ex0 x27 o28 o29 (b ++ x10) out
                  )
                  (fun b30 out31 c =>
                    rec (wi64 (i + 1)) b30 out31
                  )
                  l1 pads2 i (b ++ x10) out
              else
                none
            else
              none
          else
            none
        else
          cutroomlaw03_joined_J8_T
            (fun x32 o33 o34 =>
              ex0 x32 o33 o34 b out
            )
            (fun b35 out36 c37 =>
              rec (wi64 (i + 1)) b35 out36
            )
            l1 pads2 i b out
      else
        none
    else
      cutroomlaw03_joined_J8_T
        (fun x38 o39 o40 =>
          ex0 x38 o39 o40 b out
        )
        (fun b41 out42 c43 =>
          rec (wi64 (i + 1)) b41 out42
        )
        l1 pads2 i b out
  else
    ex1 b out
def cutroomlaw03_joined_L4_Obl (pre : (List D_api_Unit) → (List Int) → Int → (List Int) → (List D_startcode_Found) → Prop) (mu : (List D_api_Unit) → (List Int) → Int → (List Int) → (List D_startcode_Found) → Nat) (S : (List D_api_Unit) → (List Int) → Int → (List Int) → (List D_startcode_Found) → (((Bool × List Int × List D_startcode_Found × List Int × List D_startcode_Found) ⊕ (List Int × List D_startcode_Found)))) : Prop :=
  ∀ (l1 : List D_api_Unit) (pads2 : List Int) (i : Int) (b : List Int) (out : List D_startcode_Found) (_ : okT (.sl T_api_Unit) l1) (_ : okT (.sl (.int .i64)) pads2) (_ : okT (.int .i64) i) (_ : okT (.sl (.int .u8)) b) (_ : okT (.sl T_startcode_Found) out),
  pre l1 pads2 i b out →
  ∀ {R : Type} (rec : Int → (List Int) → (List D_startcode_Found) → (Option R)) (ex0 : Bool → (List Int) → (List D_startcode_Found) → (List Int) → (List D_startcode_Found) → (Option R)) (ex1 : (List Int) → (List D_startcode_Found) → (Option R)) (Good : Option R → Prop),
  (∀ (i' : Int) (b' : List Int) (out' : List D_startcode_Found), pre l1 pads2 i' b' out' → mu l1 pads2 i' b' out' < mu l1 pads2 i b out → S l1 pads2 i' b' out' = S l1 pads2 i b out → Good (rec i' b' out')) →
  (∀ y0 y1 y2 y3 y4, S l1 pads2 i b out = (.inl (y0, y1, y2, y3, y4)) → Good (ex0 y0 y1 y2 y3 y4)) →
  (∀ y0 y1, S l1 pads2 i b out = (.inr (y0, y1)) → Good (ex1 y0 y1)) →
  Good (cutroomlaw03_joined_L4_T l1 pads2 rec ex0 ex1 i b out)

noncomputable def cutroomlaw03_joined_L14_T {R : Type} (b55 : List Int) (rec : Int → (List D_startcode_Found) → (Option R)) (ex : (List D_startcode_Found) → (Option R)) (i54 : Int) (out56 : List D_startcode_Found) : Option R :=
  if (decide (i54 < (out56.length : Int))) = true then
    if (0 : Int) ≤ i54 ∧ i54 < (out56.length : Int) then
      lett (out56.set i54.toNat ((out56.getD i54.toNat Z_startcode_Found).1, (((out56.getD i54.toNat Z_startcode_Found).2).1, ((((out56.getD i54.toNat Z_startcode_Found).2).2).1, ((b55.length : Int), ((((out56.getD i54.toNat Z_startcode_Found).2).2).2).2))))) fun out60 =>
      if (decide ((wi64 (i54 + 1)) < (out60.length : Int))) = true then
        if (0 : Int) ≤ (wi64 (i54 + 1)) ∧ (wi64 (i54 + 1)) < (out60.length : Int) then
          if (0 : Int) ≤ i54 ∧ i54 < (out60.length : Int) then
            rec (wi64 (i54 + 1)) (out60.set i54.toNat ((out60.getD i54.toNat Z_startcode_Found).1, (((out60.getD i54.toNat Z_startcode_Found).2).1, ((((out60.getD i54.toNat Z_startcode_Found).2).2).1, ((out60.getD (wi64 (i54 + 1)).toNat Z_startcode_Found).2.1, ((((out60.getD i54.toNat Z_startcode_Found).2).2).2).2)))))
          else
            none
        else
          none
      else
        rec (wi64 (i54 + 1)) out60
    else
      none
  else
    ex out56
def cutroomlaw03_joined_L14_Obl (pre : (List Int) → Int → (List D_startcode_Found) → Prop) (mu : (List Int) → Int → (List D_startcode_Found) → Nat) (S : (List Int) → Int → (List D_startcode_Found) → ((List D_startcode_Found))) : Prop :=
  ∀ (b55 : List Int) (i54 : Int) (out56 : List D_startcode_Found) (_ : okT (.int .i64) i54) (_ : okT (.sl (.int .u8)) b55) (_ : okT (.sl T_startcode_Found) out56),
  pre b55 i54 out56 →
  ∀ {R : Type} (rec : Int → (List D_startcode_Found) → (Option R)) (ex : (List D_startcode_Found) → (Option R)) (Good : Option R → Prop),
  (∀ (i54' : Int) (out56' : List D_startcode_Found), pre b55 i54' out56' → mu b55 i54' out56' < mu b55 i54 out56 → S b55 i54' out56' = S b55 i54 out56 → Good (rec i54' out56')) →
  (∀ y0, S b55 i54 out56 = y0 → Good (ex y0)) →
  Good (cutroomlaw03_joined_L14_T b55 rec ex i54 out56)

noncomputable def cutroomlaw03_joined_F {R : Type} (k : Bool → (List Int) → (List D_startcode_Found) → (Option R)) (l : List D_api_Unit) (pads : List Int) : Option R :=
  need (cutroomlaw03_joined_L4_pre l pads 0 [] []) <|
  caseS (cutroomlaw03_joined_L4_S l pads 0 [] [])
    (fun res1 =>
      k res1.1 res1.2.1 res1.2.2.1
    )
    (fun res2 =>
      need (cutroomlaw03_joined_L14_pre res2.1 0 res2.2) <|
      lett (cutroomlaw03_joined_L14_S res2.1 0 res2.2) fun out69 =>
      k true res2.1 out69
    )
def cutroomlaw03_joined_Obl (pre : (List D_api_Unit) → (List Int) → Prop) (S : (List D_api_Unit) → (List Int) → ((Bool × List Int × List D_startcode_Found))) : Prop :=
  ∀ (l : List D_api_Unit) (pads : List Int) (_ : okT (.sl T_api_Unit) l) (_ : okT (.sl (.int .i64)) pads), pre l pads →
  ∀ {R : Type} (k : Bool → (List Int) → (List D_startcode_Found) → (Option R)) (Good : Option R → Prop), Good (k ((S l pads).1) ((S l pads).2.1) ((S l pads).2.2)) → Good (cutroomlaw03_joined_F k l pads)
noncomputable def cutroomlaw03_StartcodeBack_L10_T {R : Type} (want : List D_startcode_Found) (got : List D_startcode_Found) (rec : Int → (Option R)) (ex0 : Bool → (Option R)) (ex1 : Unit → (Option R)) (i : Int) : Option R :=
  if (decide (i < (got.length : Int))) = true then
    if (0 : Int) ≤ i ∧ i < (got.length : Int) then
      lett (got.getD i.toNat Z_startcode_Found) fun x14 =>
      if (0 : Int) ≤ i ∧ i < (want.length : Int) then
        lett (want.getD i.toNat Z_startcode_Found) fun x15 =>
        need (cutroomlaw03_same_pre x14 x15) <|
        lett (cutroomlaw03_same_S x14 x15) fun r16 =>
        if (!r16) = true then
          ex0 false
        else
          rec (wi64 (i + 1))
      else
        none
    else
      none
  else
    ex1 ()
def cutroomlaw03_StartcodeBack_L10_Obl (pre : (List D_startcode_Found) → (List D_startcode_Found) → Int → Prop) (mu : (List D_startcode_Found) → (List D_startcode_Found) → Int → Nat) (S : (List D_startcode_Found) → (List D_startcode_Found) → Int → (((Bool) ⊕ (Unit)))) : Prop :=
  ∀ (want : List D_startcode_Found) (got : List D_startcode_Found) (i : Int) (_ : okT (.int .i64) i) (_ : okT (.sl T_startcode_Found) want) (_ : okT (.sl T_startcode_Found) got),
  pre want got i →
  ∀ {R : Type} (rec : Int → (Option R)) (ex0 : Bool → (Option R)) (ex1 : Unit → (Option R)) (Good : Option R → Prop),
  (∀ (i' : Int), pre want got i' → mu want got i' < mu want got i → S want got i' = S want got i → Good (rec i')) →
  (∀ y0, S want got i = (.inl y0) → Good (ex0 y0)) →
  (S want got i = (.inr ()) → Good (ex1 ())) →
  Good (cutroomlaw03_StartcodeBack_L10_T want got rec ex0 ex1 i)

noncomputable def cutroomlaw03_StartcodeBack_F {R : Type} (k : Bool → (Option R)) (l : List D_api_Unit) (pads : List Int) : Option R :=
  need (cutroomlaw03_formed_pre l) <|
  lett (cutroomlaw03_formed_S l) fun r_ =>
  if (!r_) = true then
    need (cutroomlaw03_awake_pre) <|
    lett (cutroomlaw03_awake_S) fun r1 =>
    k r1
  else
    need (cutroomlaw03_joined_pre l pads) <|
    lett (cutroomlaw03_joined_S l pads) fun res1 =>
    if (!res1.1) = true then
      k false
    else
      need (startcode_Split_pre res1.2.1) <|
      lett (startcode_Split_S res1.2.1) fun res2 =>
      if ((res2.1.length : Int) != (res1.2.2.length : Int)) = true then
        k false
      else
        if ((res2.2.length : Int) != 0) = true then
          k false
        else
          need (cutroomlaw03_StartcodeBack_L10_pre res1.2.2 res2.1 0) <|
          caseS (cutroomlaw03_StartcodeBack_L10_S res1.2.2 res2.1 0)
            (fun x19 =>
              k x19
            )
            (fun _ =>
              need (cutroomlaw03_awake_pre) <|
              lett (cutroomlaw03_awake_S) fun r20 =>
              k r20
            )
def cutroomlaw03_StartcodeBack_Obl (pre : (List D_api_Unit) → (List Int) → Prop) (S : (List D_api_Unit) → (List Int) → (Bool)) : Prop :=
  ∀ (l : List D_api_Unit) (pads : List Int) (_ : okT (.sl T_api_Unit) l) (_ : okT (.sl (.int .i64)) pads), pre l pads →
  ∀ {R : Type} (k : Bool → (Option R)) (Good : Option R → Prop), Good (k ((S l pads))) → Good (cutroomlaw03_StartcodeBack_F k l pads)
noncomputable def cutroomlaw03_StartcodeResync_L11_T {R : Type} (x22 : List Int) (gotOff : Nat) (gotLen : Nat) (want : List D_startcode_Found) (got : List D_startcode_Found) (rec : Int → (Option R)) (ex0 : Bool → (Option R)) (ex1 : Unit → (Option R)) (i : Int) : Option R :=
  if (decide (i < (gotLen : Int))) = true then
    if (0 : Int) ≤ i ∧ i < (want.length : Int) then
      lett (want.getD i.toNat Z_startcode_Found) fun x25 =>
      lett ((x25.1, ((wi64 (x25.2.1 + (x22.length : Int))), x25.2.2))) fun x32 =>
      lett ((x32.1, (x32.2.1, ((wi64 (x25.2.2.1 + (x22.length : Int))), x32.2.2.2)))) fun x33 =>
      lett ((x33.1, (x33.2.1, (x33.2.2.1, ((wi64 (x25.2.2.2.1 + (x22.length : Int))), x33.2.2.2.2))))) fun x34 =>
      if (0 : Int) ≤ i ∧ i < (gotLen : Int) then
        lett (got.getD (gotOff + i.toNat) Z_startcode_Found) fun x35 =>
        need (cutroomlaw03_same_pre x35 x34) <|
        lett (cutroomlaw03_same_S x35 x34) fun r36 =>
        if (!r36) = true then
          ex0 false
        else
          rec (wi64 (i + 1))
      else
        none
    else
      none
  else
    ex1 ()
def cutroomlaw03_StartcodeResync_L11_Obl (pre : (List Int) → Nat → Nat → (List D_startcode_Found) → (List D_startcode_Found) → Int → Prop) (mu : (List Int) → Nat → Nat → (List D_startcode_Found) → (List D_startcode_Found) → Int → Nat) (S : (List Int) → Nat → Nat → (List D_startcode_Found) → (List D_startcode_Found) → Int → (((Bool) ⊕ (Unit)))) : Prop :=
  ∀ (x22 : List Int) (gotOff : Nat) (gotLen : Nat) (want : List D_startcode_Found) (got : List D_startcode_Found) (i : Int) (_ : okT (.sl (.int .u8)) x22) (_ : okT (.int .i64) i) (_ : okT (.sl T_startcode_Found) want) (_ : okT (.sl T_startcode_Found) got),
  pre x22 gotOff gotLen want got i →
  ∀ {R : Type} (rec : Int → (Option R)) (ex0 : Bool → (Option R)) (ex1 : Unit → (Option R)) (Good : Option R → Prop),
  (∀ (i' : Int), pre x22 gotOff gotLen want got i' → mu x22 gotOff gotLen want got i' < mu x22 gotOff gotLen want got i → S x22 gotOff gotLen want got i' = S x22 gotOff gotLen want got i → Good (rec i')) →
  (∀ y0, S x22 gotOff gotLen want got i = (.inl y0) → Good (ex0 y0)) →
  (S x22 gotOff gotLen want got i = (.inr ()) → Good (ex1 ())) →
  Good (cutroomlaw03_StartcodeResync_L11_T x22 gotOff gotLen want got rec ex0 ex1 i)

noncomputable def cutroomlaw03_StartcodeResync_F {R : Type} (k : Bool → (Option R)) (x : List Int) (l : List D_api_Unit) : Option R :=
  if (decide ((x.length : Int) > 200)) = true then
    need (cutroomlaw03_awake_pre) <|
    lett (cutroomlaw03_awake_S) fun r6 =>
    k r6
  else
    if ((l.length : Int) == 0) = true then
      need (cutroomlaw03_awake_pre) <|
      lett (cutroomlaw03_awake_S) fun r7 =>
      k r7
    else
      need (cutroomlaw03_formed_pre l) <|
      lett (cutroomlaw03_formed_S l) fun r_ =>
      if (!r_) = true then
        need (cutroomlaw03_awake_pre) <|
        lett (cutroomlaw03_awake_S) fun r8 =>
        k r8
      else
        need (cutroomlaw03_joined_pre l []) <|
        lett (cutroomlaw03_joined_S l []) fun res1 =>
        if (!res1.1) = true then
          k false
        else
          if 0 < 1 ∧ (([] : List Int).length + x.length) * 1 ≤ room then
            lett (([] : List Int) ++ x) fun o12 =>
            if 0 < 1 ∧ (o12.length + res1.2.1.length) * 1 ≤ room then
              need (startcode_Split_pre (o12 ++ res1.2.1)) <|
              lett (startcode_Split_S (o12 ++ res1.2.1)) fun res2 =>
              if (decide ((res2.1.length : Int) < (res1.2.2.length : Int))) = true then
                k false
              else
                lett (wi64 ((res2.1.length : Int) - (res1.2.2.length : Int))) fun x21 =>
                if (0 : Int) ≤ x21 ∧ x21 ≤ (res2.1.length : Int) then
                  need (cutroomlaw03_StartcodeResync_L11_pre x x21.toNat (res2.1.length - x21.toNat) res1.2.2 res2.1 0) <|
                  caseS (cutroomlaw03_StartcodeResync_L11_S x x21.toNat (res2.1.length - x21.toNat) res1.2.2 res2.1 0)
                    (fun x39 =>
                      k x39
                    )
                    (fun _ =>
                      need (cutroomlaw03_awake_pre) <|
                      lett (cutroomlaw03_awake_S) fun r40 =>
                      k r40
                    )
                else
                  none
            else
              none
          else
            none
def cutroomlaw03_StartcodeResync_Obl (pre : (List Int) → (List D_api_Unit) → Prop) (S : (List Int) → (List D_api_Unit) → (Bool)) : Prop :=
  ∀ (x : List Int) (l : List D_api_Unit) (_ : okT (.sl (.int .u8)) x) (_ : okT (.sl T_api_Unit) l), pre x l →
  ∀ {R : Type} (k : Bool → (Option R)) (Good : Option R → Prop), Good (k ((S x l))) → Good (cutroomlaw03_StartcodeResync_F k x l)
noncomputable def cutroomlaw03_StartcodeDamage_L20_T {R : Type} (k37 : Int) (i38 : Int) (want39 : List D_startcode_Found) (got40 : List D_startcode_Found) (rec : Bool → Int → (Option R)) (ex : Bool → (Option R)) (found : Bool) (j : Int) : Option R :=
  if (decide (j < (got40.length : Int))) = true then
    if found = true then
      rec true (wi64 (j + 1))
    else
      if (0 : Int) ≤ j ∧ j < (got40.length : Int) then
        lett (got40.getD j.toNat Z_startcode_Found) fun x43 =>
        if (0 : Int) ≤ i38 ∧ i38 < (want39.length : Int) then
          lett (want39.getD i38.toNat Z_startcode_Found) fun x44 =>
          need (cutroomlaw03_same_pre x43 x44) <|
          lett (cutroomlaw03_same_S x43 x44) fun r45 =>
          rec r45 (wi64 (j + 1))
        else
          none
      else
        none
  else
    ex found
def cutroomlaw03_StartcodeDamage_L20_Obl (pre : Int → Int → (List D_startcode_Found) → (List D_startcode_Found) → Bool → Int → Prop) (mu : Int → Int → (List D_startcode_Found) → (List D_startcode_Found) → Bool → Int → Nat) (S : Int → Int → (List D_startcode_Found) → (List D_startcode_Found) → Bool → Int → (Bool)) : Prop :=
  ∀ (k37 : Int) (i38 : Int) (want39 : List D_startcode_Found) (got40 : List D_startcode_Found) (found : Bool) (j : Int) (_ : okT (.int .i64) k37) (_ : okT (.int .i64) i38) (_ : okT .bool found) (_ : okT (.int .i64) j) (_ : okT (.sl T_startcode_Found) want39) (_ : okT (.sl T_startcode_Found) got40),
  pre k37 i38 want39 got40 found j →
  ∀ {R : Type} (rec : Bool → Int → (Option R)) (ex : Bool → (Option R)) (Good : Option R → Prop),
  (∀ (found' : Bool) (j' : Int), pre k37 i38 want39 got40 found' j' → mu k37 i38 want39 got40 found' j' < mu k37 i38 want39 got40 found j → S k37 i38 want39 got40 found' j' = S k37 i38 want39 got40 found j → Good (rec found' j')) →
  (∀ y0, S k37 i38 want39 got40 found j = y0 → Good (ex y0)) →
  Good (cutroomlaw03_StartcodeDamage_L20_T k37 i38 want39 got40 rec ex found j)

noncomputable def cutroomlaw03_StartcodeDamage_L15_T {R : Type} (k33 : Int) (want : List D_startcode_Found) (got : List D_startcode_Found) (rec : Int → (Option R)) (ex0 : Bool → (Option R)) (ex1 : Unit → (Option R)) (i : Int) : Option R :=
  if (decide (i < (want.length : Int))) = true then
    if (i == k33) = true then
      rec (wi64 (i + 1))
    else
      need (cutroomlaw03_StartcodeDamage_L20_pre k33 i want got false 0) <|
      lett (cutroomlaw03_StartcodeDamage_L20_S k33 i want got false 0) fun found48 =>
      if (!found48) = true then
        ex0 false
      else
        rec (wi64 (i + 1))
  else
    ex1 ()
def cutroomlaw03_StartcodeDamage_L15_Obl (pre : Int → (List D_startcode_Found) → (List D_startcode_Found) → Int → Prop) (mu : Int → (List D_startcode_Found) → (List D_startcode_Found) → Int → Nat) (S : Int → (List D_startcode_Found) → (List D_startcode_Found) → Int → (((Bool) ⊕ (Unit)))) : Prop :=
  ∀ (k33 : Int) (want : List D_startcode_Found) (got : List D_startcode_Found) (i : Int) (_ : okT (.int .i64) k33) (_ : okT (.int .i64) i) (_ : okT (.sl T_startcode_Found) want) (_ : okT (.sl T_startcode_Found) got),
  pre k33 want got i →
  ∀ {R : Type} (rec : Int → (Option R)) (ex0 : Bool → (Option R)) (ex1 : Unit → (Option R)) (Good : Option R → Prop),
  (∀ (i' : Int), pre k33 want got i' → mu k33 want got i' < mu k33 want got i → S k33 want got i' = S k33 want got i → Good (rec i')) →
  (∀ y0, S k33 want got i = (.inl y0) → Good (ex0 y0)) →
  (S k33 want got i = (.inr ()) → Good (ex1 ())) →
  Good (cutroomlaw03_StartcodeDamage_L15_T k33 want got rec ex0 ex1 i)

noncomputable def cutroomlaw03_StartcodeDamage_F {R : Type} (k : Bool → (Option R)) (l : List D_api_Unit) (k_ : Int) (at_ : Int) (by_ : Int) : Option R :=
  if ((l.length : Int) == 0) = true then
    need (cutroomlaw03_awake_pre) <|
    lett (cutroomlaw03_awake_S) fun r8 =>
    k r8
  else
    need (cutroomlaw03_formed_pre l) <|
    lett (cutroomlaw03_formed_S l) fun r_ =>
    if (!r_) = true then
      need (cutroomlaw03_awake_pre) <|
      lett (cutroomlaw03_awake_S) fun r9 =>
      k r9
    else
      if (decide (k_ < 0)) = true then
        need (cutroomlaw03_awake_pre) <|
        lett (cutroomlaw03_awake_S) fun r10 =>
        k r10
      else
        if (decide (k_ ≥ (l.length : Int))) = true then
          need (cutroomlaw03_awake_pre) <|
          lett (cutroomlaw03_awake_S) fun r11 =>
          k r11
        else
          if (decide (at_ < 0)) = true then
            need (cutroomlaw03_awake_pre) <|
            lett (cutroomlaw03_awake_S) fun r12 =>
            k r12
          else
            if (by_ == 0) = true then
              need (cutroomlaw03_awake_pre) <|
              lett (cutroomlaw03_awake_S) fun r13 =>
              k r13
            else
              need (cutroomlaw03_joined_pre l []) <|
              lett (cutroomlaw03_joined_S l []) fun res1 =>
              if (!res1.1) = true then
                k false
              else
                if (0 : Int) ≤ k_ ∧ k_ < (res1.2.2.length : Int) then
                  if (0 : Int) ≤ k_ ∧ k_ < (res1.2.2.length : Int) then
                    lett (wi64 ((wi64 ((res1.2.2.getD k_.toNat Z_startcode_Found).2.2.1 - (res1.2.2.getD k_.toNat Z_startcode_Found).2.1)) - 4)) fun x20 =>
                    if (decide (x20 ≤ 0)) = true then
                      need (cutroomlaw03_awake_pre) <|
                      lett (cutroomlaw03_awake_S) fun r22 =>
                      k r22
                    else
                      if (0 : Int) ≤ k_ ∧ k_ < (res1.2.2.length : Int) then
                        if x20 = 0 then
                          none
                        else
                          lett (wi64 ((wi64 ((res1.2.2.getD k_.toNat Z_startcode_Found).2.1 + 4)) + (at_.tmod x20))) fun x26 =>
                          if (decide (x26 ≥ (res1.2.1.length : Int))) = true then
                            k false
                          else
                            if (0 : Int) ≤ x26 ∧ x26 < (res1.2.1.length : Int) then
                              if (0 : Int) ≤ x26 ∧ x26 < (res1.2.1.length : Int) then
                                lett (res1.2.1.set x26.toNat (bxor .u8 (res1.2.1.getD x26.toNat 0) by_)) fun b =>
                                need (startcode_Split_pre b) <|
                                lett (startcode_Split_S b) fun res2 =>
                                need (cutroomlaw03_StartcodeDamage_L15_pre k_ res1.2.2 res2.1 0) <|
                                caseS (cutroomlaw03_StartcodeDamage_L15_S k_ res1.2.2 res2.1 0)
                                  (fun x52 =>
                                    k x52
                                  )
                                  (fun _ =>
                                    need (cutroomlaw03_awake_pre) <|
                                    lett (cutroomlaw03_awake_S) fun r53 =>
                                    k r53
                                  )
                              else
                                none
                            else
                              none
                      else
                        none
                  else
                    none
                else
                  none
def cutroomlaw03_StartcodeDamage_Obl (pre : (List D_api_Unit) → Int → Int → Int → Prop) (S : (List D_api_Unit) → Int → Int → Int → (Bool)) : Prop :=
  ∀ (l : List D_api_Unit) (k_ : Int) (at_ : Int) (by_ : Int) (_ : okT (.sl T_api_Unit) l) (_ : okT (.int .i64) k_) (_ : okT (.int .i64) at_) (_ : okT (.int .u8) by_), pre l k_ at_ by_ →
  ∀ {R : Type} (k : Bool → (Option R)) (Good : Option R → Prop), Good (k ((S l k_ at_ by_))) → Good (cutroomlaw03_StartcodeDamage_F k l k_ at_ by_)
theorem gApp {A B : List Int} (k : Nat) : (A ++ B).getD (A.length + k) 0 = B.getD k 0 := by
  simp only [List.getD]; rw [List.getElem?_append_right (by omega), Nat.add_sub_cancel_left]
theorem gApp1 {A B : List Int} {k : Nat} (h : k < A.length) : (A ++ B).getD k 0 = A.getD k 0 := by
  simp only [List.getD]; rw [List.getElem?_append_left h]
theorem gRep {m k : Nat} : (List.replicate m (0 : Int)).getD k 0 = 0 := by
  simp only [List.getD, List.getElem?_replicate]; split <;> rfl
theorem isC_iff {b : List Int} {k : Nat} : isCode b (k : Int) = true ↔ b.getD k 0 = 0 ∧ b.getD (k + 1) 0 = 0 ∧ b.getD (k + 2) 0 = 1 ∧ 0 < b.getD (k + 3) 0 := by
  unfold isCode
  rw [show ((k : Int) + 1).toNat = k + 1 by omega, show ((k : Int) + 2).toNat = k + 2 by omega, show ((k : Int) + 3).toNat = k + 3 by omega, Int.toNat_natCast]
  simp only [Bool.and_eq_true, beq_iff_eq, decide_eq_true_eq, and_assoc]
theorem isC_app {A B : List Int} {k : Nat} : isCode (A ++ B) ((A.length + k : Nat) : Int) = true ↔ isCode B (k : Int) = true := by
  rw [isC_iff, isC_iff, Nat.add_assoc, Nat.add_assoc, Nat.add_assoc, gApp, gApp, gApp, gApp]
theorem codes_step {b : List Int} {i : Int} (h : isCode b i = false) : codesAt b i = codesAt b (i + 1) := by
  conv => lhs; rw [codesAt]
  split
  · rw [h]; simp
  · rw [codesAt, if_neg (by omega)]
theorem next_step {b : List Int} {i : Int} (h : isCode b i = false) : nextC b i = nextC b (i + 1) := by
  conv => lhs; rw [nextC]
  split
  · rw [h]; simp
  · rw [nextC, if_neg (by omega)]
theorem walk {b : List Int} : ∀ (d k : Nat), (∀ j, k ≤ j → j < k + d → isCode b (j : Int) = false) → codesAt b k = codesAt b (k + d : Nat) ∧ nextC b k = nextC b (k + d : Nat)
  | 0, k, _ => ⟨rfl, rfl⟩
  | d + 1, k, h => by
    obtain ⟨h1, h2⟩ := walk d (k + 1) (fun j a c => h j (by omega) (by omega))
    have hk := h k (Nat.le_refl _) (by omega)
    rw [codes_step hk, next_step hk, show k + (d + 1) = k + 1 + d by omega, ← h1, ← h2]
    exact ⟨rfl, rfl⟩
theorem code_here {b : List Int} {i : Int} (h : isCode b i = true) (h4 : i + 4 ≤ b.length) : codesAt b i = i :: codesAt b (i + 4) ∧ nextC b i = i := by
  constructor
  · conv => lhs; rw [codesAt]
    rw [if_pos h4, h]; rfl
  · rw [nextC, if_pos h4, h]; rfl
theorem at_end {b : List Int} : codesAt b b.length = [] ∧ nextC b b.length = b.length := by
  constructor
  · rw [codesAt, if_neg (by omega)]
  · rw [nextC, if_neg (by omega)]
theorem clean_get : ∀ (l : List Int) (k : Nat), cleanL l = true → k + 2 < l.length → l.getD k 0 = 0 → l.getD (k + 1) 0 = 0 → 3 ≤ l.getD (k + 2) 0
  | [], _, _, h, _, _ => by simp at h
  | [_], _, _, h, _, _ => by simp at h
  | [_, _], k, _, h, _, _ => by simp only [List.length] at h; omega
  | a :: b :: c :: r, 0, hc, _, h1, h2 => by
    rw [cleanL] at hc
    simp at hc h1 h2 ⊢
    omega
  | a :: b :: c :: r, k + 1, hc, h, h1, h2 => by
    rw [cleanL, Bool.and_eq_true] at hc
    have := clean_get (b :: c :: r) k hc.2 (by simp at h ⊢; omega) (by simpa using h1) (by simpa using h2)
    simpa using this
theorem ends_get {l : List Int} (h : endsZero l = false) (h0 : 0 < l.length) : l.getD (l.length - 1) 0 ≠ 0 := fun e => by
  rw [(last_endsZero h0).1 e] at h; cases h
def fOk (u : D_api_Unit) : Prop := (startcode_Format_S u).1 = 0
theorem fmt_facts {u : D_api_Unit} (h : fOk u) : fmt u = [0, 0, 1, u.1] ++ escL 0 u.2.1 ∧ 1 ≤ u.1 ∧ endsZero (fmt u) = false ∧ cleanL ((fmt u).drop 1) = true ∧ (fmt u).length = 4 + (escL 0 u.2.1).length := by
  obtain ⟨h1, h2, h3⟩ := format_last h
  refine ⟨h1, h2, h3, ?_, by unfold fmt; rw [h1]; simp; omega⟩
  unfold fmt
  rw [h1]
  refine clean_of_scan _ 0 (by decide) ?_
  have := scan_esc 0 u.2.1
  simp [scan, show ¬ u.1 = 0 by omega, this]
theorem code_fmt {u : D_api_Unit} (h : fOk u) (Z : List Int) : isCode (fmt u ++ Z) ((0 : Nat) : Int) = true := by
  obtain ⟨h1, h2, _⟩ := fmt_facts h
  rw [isC_iff, h1]
  simp; omega
theorem nocode_fmt {u : D_api_Unit} (h : fOk u) {Z : List Int} {k : Nat} (h1 : 1 ≤ k) (h2 : k < (fmt u).length) : isCode (fmt u ++ Z) (k : Int) = false := by
  obtain ⟨_, _, h3, h4, _⟩ := fmt_facts h
  refine Bool.eq_false_iff.2 fun hc => ?_
  rw [isC_iff] at hc
  obtain ⟨c0, c1, c2, _⟩ := hc
  have hl := ends_get h3 (by omega)
  by_cases h5 : k + 2 < (fmt u).length
  · rw [gApp1 (by omega)] at c0 c1 c2
    have hd : ∀ j, ((fmt u).drop 1).getD j 0 = (fmt u).getD (1 + j) 0 := fun j => by simp [List.getD, Nat.add_comm]
    have := clean_get _ (k - 1) h4 (by simp; omega) (by rw [hd, show 1 + (k - 1) = k by omega]; exact c0) (by rw [hd, show 1 + (k - 1 + 1) = k + 1 by omega]; exact c1)
    rw [hd, show 1 + (k - 1 + 2) = k + 2 by omega, c2] at this
    omega
  · by_cases h6 : k + 1 < (fmt u).length
    · rw [gApp1 (by omega)] at c1
      rw [show (fmt u).length - 1 = k + 1 by omega] at hl
      exact hl c1
    · rw [gApp1 (by omega)] at c0
      rw [show (fmt u).length - 1 = k by omega] at hl
      exact hl c0
/-- starts with a start code, or is nothing -/
def startsC (Z : List Int) : Prop := isCode Z ((0 : Nat) : Int) = true ∧ 4 ≤ Z.length
theorem starts_fmt {u : D_api_Unit} (h : fOk u) (Z : List Int) : startsC (fmt u ++ Z) := ⟨code_fmt h Z, by
  have := (fmt_facts h).2.2.2.2
  simp; omega⟩
theorem nocode_pad {m : Nat} {Z : List Int} (hZ : startsC Z) {k : Nat} (h : k < m) : isCode (List.replicate m 0 ++ Z) (k : Int) = false := by
  refine Bool.eq_false_iff.2 fun hc => ?_
  have hz := isC_iff.1 hZ.1
  rw [isC_iff] at hc
  have c2 := hc.2.2.1
  by_cases h5 : k + 2 < m
  · rw [gApp1 (by simpa using h5), gRep] at c2; omega
  · obtain ⟨j, hj⟩ : ∃ j, k + 2 = m + j := ⟨k + 2 - m, by omega⟩
    have e := gApp (A := List.replicate m (0 : Int)) (B := Z) j
    rw [List.length_replicate] at e
    rw [hj, e] at c2
    rcases (show j = 0 ∨ j = 1 by omega) with rfl | rfl
    · rw [hz.1] at c2; omega
    · rw [hz.2.1] at c2; omega
theorem seq_pad {A Z : List Int} {m : Nat} (hZ : startsC Z) : seqC (A ++ (List.replicate m 0 ++ Z)) A.length = seqC (A ++ (List.replicate m 0 ++ Z)) (A.length + m : Nat) ∧ nextC (A ++ (List.replicate m 0 ++ Z)) A.length = (A.length + m : Nat) := by
  have w := walk (b := A ++ (List.replicate m 0 ++ Z)) m A.length fun j h1 h2 => by
    obtain ⟨k, rfl⟩ : ∃ k, j = A.length + k := ⟨j - A.length, by omega⟩
    exact Bool.eq_false_iff.2 fun hc => by
      rw [isC_app, nocode_pad hZ (by omega)] at hc; cases hc
  have hcode : isCode (A ++ (List.replicate m 0 ++ Z)) ((A.length + m : Nat) : Int) = true := by
    rw [isC_app]
    have := (isC_app (A := List.replicate m 0) (B := Z) (k := 0)).2 hZ.1
    simpa using this
  refine ⟨by unfold seqC; rw [w.1], ?_⟩
  rw [w.2]
  exact (code_here hcode (by have := hZ.2; simp; omega)).2
theorem seq_unit {A Z : List Int} {u : D_api_Unit} (h : fOk u) : seqC (A ++ (fmt u ++ Z)) A.length = (A.length : Int) :: seqC (A ++ (fmt u ++ Z)) (A.length + (fmt u).length : Nat) := by
  have hl := (fmt_facts h).2.2.2.2
  have hcode : isCode (A ++ (fmt u ++ Z)) ((A.length : Nat) : Int) = true := by
    have := (isC_app (A := A) (B := fmt u ++ Z) (k := 0)).2 (code_fmt h Z)
    simpa using this
  have w := walk (b := A ++ (fmt u ++ Z)) ((fmt u).length - 4) (A.length + 4) fun j h1 h2 => by
    obtain ⟨k, rfl⟩ : ∃ k, j = A.length + k := ⟨j - A.length, by omega⟩
    exact Bool.eq_false_iff.2 fun hc => by
      rw [isC_app, nocode_fmt h (by omega) (by omega)] at hc; cases hc
  unfold seqC
  rw [(code_here hcode (by simp; omega)).1, show ((A.length : Nat) : Int) + 4 = ((A.length + 4 : Nat) : Int) by omega, w.1, show A.length + 4 + ((fmt u).length - 4) = A.length + (fmt u).length by omega]
  rfl
theorem trim_pad (l : List Int) : ∀ m, trimL (l ++ List.replicate m 0) = trimL l
  | 0 => by simp
  | m + 1 => by rw [List.replicate_succ', ← List.append_assoc, trimL_snoc, if_pos rfl, trim_pad l m]
theorem trim_esc {e : List Int} (h : endsZero e = false) : trimL e = e.length := by
  rcases List.eq_nil_or_concat e with rfl | ⟨r, x, rfl⟩
  · rfl
  · rw [List.concat_eq_append] at h ⊢
    rw [endsZero_snoc] at h
    rw [trimL_snoc, if_neg (by simpa using h)]
    simp
theorem pay_ends {u : D_api_Unit} (h : fOk u) : endsZero u.2.1 = false := by
  unfold fOk startcode_Format_S at h
  by_cases h1 : u.1 < 1 ∨ 255 < u.1
  · rw [if_pos h1] at h; simp at h
  · rw [if_neg h1] at h
    by_cases h2 : endsZero u.2.1 = true
    · rw [if_pos h2] at h; simp at h
    · simpa using h2
theorem one_unit {A Z : List Int} {u : D_api_Unit} (h : fOk u) (m : Nat) :
    one (A ++ (fmt u ++ (List.replicate m 0 ++ Z))) A.length (A.length + (fmt u).length + m : Nat) = .inl (u, A.length, A.length + (fmt u).length, (A.length + (fmt u).length + m : Nat), ()) := by
  obtain ⟨h1, _, _, _, hl⟩ := fmt_facts h
  have hz : endsZero (escL 0 u.2.1) = false := by rw [endsZero_esc]; exact pay_ends h
  have hcut : ∀ k : Nat, k ≤ m → cutL (A ++ (fmt u ++ (List.replicate m 0 ++ Z))) (A.length + 4) (A.length + (fmt u).length + k) = escL 0 u.2.1 ++ List.replicate k 0 := fun k hk => by
    unfold cutL
    have e : A ++ (fmt u ++ (List.replicate m 0 ++ Z)) = (A ++ [0, 0, 1, u.1]) ++ ((escL 0 u.2.1 ++ List.replicate k 0) ++ (List.replicate (m - k) 0 ++ Z)) := by
      have e2 : List.replicate m (0 : Int) = List.replicate k 0 ++ List.replicate (m - k) 0 := by rw [List.replicate_append_replicate, show k + (m - k) = m by omega]
      rw [h1, e2]
      simp only [List.append_assoc]
    rw [e, ← List.append_assoc, List.take_append_of_le_length (by simp; omega), List.take_of_length_le (by simp; omega), show A.length + 4 = (A ++ [0, 0, 1, u.1]).length by simp, List.drop_left]
  unfold one
  simp only
  rw [show ((A.length : Int) + 4).toNat = A.length + 4 by omega, Int.toNat_natCast, hcut m (Nat.le_refl _), trim_pad, trim_esc hz,
    show ((A.length : Int) + 4 + (escL 0 u.2.1).length).toNat = A.length + (fmt u).length + 0 by omega, hcut 0 (by omega)]
  have hu : startcode_Unescape_S (escL 0 u.2.1 ++ List.replicate 0 0) = (0, u.2.1) := by
    rw [List.replicate_zero, List.append_nil]
    unfold startcode_Unescape_S
    rw [hz, if_neg (by simp), unL_esc]
    simp
  rw [hu, if_neg (by simp), show ((A.length : Int) + 3).toNat = A.length + 3 by omega, gApp, gApp1 (by omega), show (fmt u).getD 3 0 = u.1 by rw [h1]; rfl]
  rw [show (A.length : Int) + 4 + (escL 0 u.2.1).length = A.length + (fmt u).length by omega]
theorem goS_end (b : List Int) (a : Int) : goS b [a] = ([], []) := by unfold goS; rfl

theorem pad_le (pads : List Int) (i : Nat) : padOf pads i ≤ 7 := by
  unfold padOf
  split
  · rename_i h
    have := Int.tmod_lt_of_pos (pads.getD i 0) (b := 8) (by decide)
    omega
  · omega
theorem split_join (pads : List Int) : ∀ (l : List D_api_Unit) (i : Nat) (A b : List Int), (∀ u ∈ l, fOk u) → b = A ++ joinB pads i l →
    nextC b A.length = (A.length + (match l with | [] => 0 | _ :: _ => padOf pads i) : Nat) ∧ goS b (seqC b A.length) = (nextW b.length (joinW pads i A.length l), [])
  | [], i, A, b, _, hb => by
    have : b = A := by simpa [joinB] using hb
    subst this
    refine ⟨by rw [at_end.2]; rfl, ?_⟩
    unfold seqC
    rw [at_end.1, List.nil_append, goS_end]; rfl
  | u :: r, i, A, b, hl, hb => by
    have hu := hl u (by simp)
    have hS := starts_fmt hu (joinB pads (i + 1) r)
    have hb1 : b = A ++ (List.replicate (padOf pads i) 0 ++ (fmt u ++ joinB pads (i + 1) r)) := hb
    obtain ⟨p1, p2⟩ := seq_pad (A := A) (m := padOf pads i) hS
    rw [← hb1] at p1 p2
    refine ⟨p2, ?_⟩
    have hb2 : b = (A ++ List.replicate (padOf pads i) 0) ++ (fmt u ++ joinB pads (i + 1) r) := by rw [hb1]; simp only [List.append_assoc]
    have hA1 : (A ++ List.replicate (padOf pads i) (0 : Int)).length = A.length + padOf pads i := by simp
    have s := seq_unit (A := A ++ List.replicate (padOf pads i) 0) (Z := joinB pads (i + 1) r) hu
    rw [← hb2, hA1] at s
    have hb3 : b = (A ++ List.replicate (padOf pads i) 0 ++ fmt u) ++ joinB pads (i + 1) r := by rw [hb2]; simp only [List.append_assoc]
    have hA2 : (A ++ List.replicate (padOf pads i) 0 ++ fmt u).length = A.length + padOf pads i + (fmt u).length := by simp; omega
    obtain ⟨n1, n2⟩ := split_join pads r (i + 1) _ b (fun v hv => hl v (by simp [hv])) hb3
    rw [hA2] at n1 n2
    rw [p1, s]
    obtain ⟨q, hq⟩ := seqC_cons (b := b) (i := ((A.length + padOf pads i + (fmt u).length : Nat) : Int)) (by omega)
    rw [hq, goS_step, ← hq, n2, n1]
    have ho : ∀ m Z, joinB pads (i + 1) r = List.replicate m 0 ++ Z → one b ((A.length + padOf pads i : Nat) : Int) (A.length + padOf pads i + (fmt u).length + m : Nat) = .inl (u, (A.length : Int) + padOf pads i, (A.length : Int) + padOf pads i + (fmt u).length, (A.length + padOf pads i + (fmt u).length + m : Nat), ()) := fun m Z hZ => by
      have := one_unit (A := A ++ List.replicate (padOf pads i) 0) (Z := Z) hu m
      rw [← hZ, ← hb2, hA1] at this
      rw [this, show ((A.length + padOf pads i : Nat) : Int) = (A.length : Int) + padOf pads i by omega]
    have e1 : ((A.length + padOf pads i + (fmt u).length : Nat) : Int) = (A.length : Int) + padOf pads i + (fmt u).length := by omega
    rw [e1]
    cases r with
    | nil =>
      have hlen : (b.length : Int) = (A.length + padOf pads i + (fmt u).length + 0 : Nat) := by rw [hb3, List.length_append, hA2]; simp [joinB]
      rw [hlen]
      simp only [ho 0 [] rfl]
      rfl
    | cons v r' =>
      simp only [ho _ _ rfl]
      simp only [joinW, nextW, setN, Prod.mk.injEq, and_true, List.cons.injEq, true_and]
      omega
theorem joinB_len {pads : List Int} : ∀ (l : List D_api_Unit) (i : Nat), l.all okUnit = true → (joinB pads i l).length ≤ 211 * l.length
  | [], _, _ => by simp [joinB]
  | u :: r, i, h => by
    simp only [List.all_cons, Bool.and_eq_true] at h
    have h1 := joinB_len (pads := pads) r (i + 1) h.2
    have h2 := pad_le pads i
    have h3 : u.2.1.length ≤ 100 ∧ fOk u := by simpa [okUnit, fOk] using h.1
    have h4 := (fmt_facts h3.2).2.2.2.2
    have h5 := escL_len 0 u.2.1
    simp only [joinB, List.length_append, List.length_replicate, List.length_cons]
    omega
theorem all_ok {l : List D_api_Unit} (h : l.all okUnit = true) : ∀ u ∈ l, u.2.1.length ≤ 100 ∧ fOk u := fun u hu => by
  have := List.all_eq_true.1 h u hu
  simpa [okUnit, fOk] using this
theorem cutroomlaw03_joined_J8_good {R : Type} {Good : Option R → Prop} {ex0 : Bool → List Int → List D_startcode_Found → Option R} {ex1 : List Int → List D_startcode_Found → List Int → Option R}
    {l : List D_api_Unit} {pads : List Int} {i : Int} {b : List Int} {out : List D_startcode_Found} (h0 : 0 ≤ i) (h1 : i < l.length) (hall : l.all okUnit = true) (hb : b.length ≤ 10000) (ho : out.length ≤ 100)
    (hx : ∀ c, Good (ex1 (b ++ fmt (l.getD i.toNat Z_api_Unit)) (out ++ [(l.getD i.toNat Z_api_Unit, (b.length : Int), (b.length : Int) + (fmt (l.getD i.toNat Z_api_Unit)).length, 0, ())]) c)) :
    Good (cutroomlaw03_joined_J8_T ex0 ex1 l pads i b out) := by
  have hroom := room_eq
  have hmem : l.getD i.toNat Z_api_Unit ∈ l := by
    rw [show l.getD i.toNat Z_api_Unit = l[i.toNat]'(by omega) by simp [List.getD, List.getElem?_eq_getElem (show i.toNat < l.length by omega)]]
    exact List.getElem_mem _
  obtain ⟨k1, k2⟩ := all_ok hall _ hmem
  have k3 := (fmt_facts k2).2.2.2.2
  have k4 := escL_len 0 (l.getD i.toNat Z_api_Unit).2.1
  unfold cutroomlaw03_joined_J8_T
  refine gC ⟨h0, h1⟩ fun _ => gL fun x hx' => ?_
  subst hx'
  refine gNeed (by unfold startcode_Format_pre; omega) fun _ => gL fun res hres => ?_
  have hr2 : res.2 = fmt (l.getD i.toNat Z_api_Unit) := by rw [hres]; rfl
  refine gN (fun h => absurd (by rw [hres]; exact k2) h) fun _ => gC ⟨h0, h1⟩ fun _ => gL fun y hy => ?_
  rw [hr2] at hy ⊢
  rw [w64 (by omega) (by omega)] at hy
  refine gC ⟨by decide, by simp only [List.length_cons, List.length_nil]; omega⟩ fun _ => gC ⟨by decide, by omega⟩ fun _ => ?_
  rw [hy]
  exact hx _
theorem cutroomlaw03_joined_L4_ok : cutroomlaw03_joined_L4_Obl cutroomlaw03_joined_L4_pre cutroomlaw03_joined_L4_mu cutroomlaw03_joined_L4_S := by
  intro l pads i b out _ hp _ _ _ ⟨h0, h1, h20, hall, hb, ho⟩ R rec ex0 ex1 Good hr hx0 hx1
  have hroom := room_eq
  have hm := okSl hp
  unfold cutroomlaw03_joined_L4_S at hr hx0 hx1
  unfold cutroomlaw03_joined_L4_mu cutroomlaw03_joined_L4_pre at hr
  refine gD (fun hlt => ?_) fun hge => hx1 _ _ (by rw [List.drop_eq_nil_of_le (by omega)]; simp [joinB, joinW])
  have hmem : l.getD i.toNat Z_api_Unit ∈ l := by
    rw [show l.getD i.toNat Z_api_Unit = l[i.toNat]'(by omega) by simp [List.getD, List.getElem?_eq_getElem (show i.toNat < l.length by omega)]]
    exact List.getElem_mem _
  obtain ⟨k1, k2⟩ := all_ok hall _ hmem
  have k3 := (fmt_facts k2).2.2.2.2
  have k4 := escL_len 0 (l.getD i.toNat Z_api_Unit).2.1
  have k5 := pad_le pads i.toNat
  rw [dropAt h0 hlt Z_api_Unit] at hr
  have fin : ∀ (ex0' : Bool → List Int → List D_startcode_Found → Option R) (b1 : List Int), b1 = b ++ List.replicate (padOf pads i.toNat) 0 →
      Good (cutroomlaw03_joined_J8_T ex0' (fun b30 out31 _ => rec (wi64 (i + 1)) b30 out31) l pads i b1 out) := fun ex0' b1 hb1 => by
    have hl1 : b1.length = b.length + padOf pads i.toNat := by rw [hb1]; simp
    refine cutroomlaw03_joined_J8_good h0 hlt hall (by omega) (by omega) fun c => ?_
    rw [w64 (by omega) (by omega)]
    refine hr _ _ _ ⟨by omega, by omega, h20, hall, by simp only [List.length_append]; omega, by simp only [List.length_append, List.length_cons, List.length_nil]; omega⟩ (by omega) ?_
    rw [show (i + 1).toNat = i.toNat + 1 by omega, joinB, joinW, hb1]
    simp only [List.append_assoc, List.length_append, List.length_replicate, List.cons_append, List.nil_append]
    rw [show ((b.length + (padOf pads i.toNat + (fmt (l.getD i.toNat Z_api_Unit)).length) : Nat) : Int) = (b.length : Int) + padOf pads i.toNat + (fmt (l.getD i.toNat Z_api_Unit)).length by omega,
      show ((b.length + padOf pads i.toNat : Nat) : Int) = (b.length : Int) + padOf pads i.toNat by omega]
  have e0 : ∀ {p : Prop}, ¬ (i.toNat < pads.length ∧ 0 < pads.getD i.toNat 0) → b = b ++ List.replicate (padOf pads i.toNat) 0 := fun h => by
    unfold padOf; rw [if_neg h]; simp
  refine gD (fun hp1 => gC ⟨h0, hp1⟩ fun _ => gD (fun hpos => gC ⟨h0, hp1⟩ fun _ => gL fun x9 h9 => ?_) fun hn => fin _ _ (e0 (p := True) fun h => hn h.2)) fun hn => fin _ _ (e0 (p := True) fun h => hn (by omega))
  have ht := Int.tmod_nonneg 8 (show 0 ≤ pads.getD i.toNat 0 by omega)
  have hpd : padOf pads i.toNat = x9.toNat := by unfold padOf; rw [if_pos ⟨by omega, by omega⟩, h9]
  refine gC (by omega) fun _ => gL fun x10 h10 => gC ⟨by decide, ?_⟩ fun _ => fin _ _ ?_
  · rw [h10, List.length_replicate]; omega
  · rw [h10, hpd]
theorem set_mid {α : Type} {A r : List α} {f v : α} : (A ++ f :: r).set A.length v = A ++ v :: r := by simp
theorem get_mid {α : Type} {A r : List α} {f z : α} : (A ++ f :: r).getD A.length z = f := by simp [List.getD]
theorem get_mid1 {α : Type} {A r : List α} {f g z : α} : (A ++ f :: g :: r).getD (A.length + 1) z = g := by simp [List.getD]
theorem mid_split {α : Type} {l : List α} {i : Int} (h0 : 0 ≤ i) (h : i < l.length) : ∃ A f r, l = A ++ f :: r ∧ i = (A.length : Int) := by
  refine ⟨l.take i.toNat, l[i.toNat]'(by omega), l.drop (i.toNat + 1), ?_, by simp; omega⟩
  rw [← List.drop_eq_getElem_cons, List.take_append_drop]
theorem cutroomlaw03_joined_L14_ok : cutroomlaw03_joined_L14_Obl cutroomlaw03_joined_L14_pre cutroomlaw03_joined_L14_mu cutroomlaw03_joined_L14_S := by
  intro b i out _ _ _ ⟨h0, h1, h20⟩ R rec ex Good hr hx
  unfold cutroomlaw03_joined_L14_S at hr hx
  unfold cutroomlaw03_joined_L14_mu cutroomlaw03_joined_L14_pre at hr
  refine gD (fun hlt => ?_) fun hge => hx _ (by rw [List.drop_eq_nil_of_le (by omega), List.take_of_length_le (by omega)]; simp [nextW])
  obtain ⟨A, f, r, rfl, rfl⟩ := mid_split h0 hlt
  rw [Int.toNat_natCast, List.take_left, List.drop_left] at hr
  rw [Int.toNat_natCast, w64 (by omega) (by omega), get_mid, set_mid]
  have done : ∀ f' : D_startcode_Found, nextW b.length (f :: r) = f' :: nextW b.length r → Good (rec ((A.length : Int) + 1) (A ++ f' :: r)) := fun f' hf => by
    refine hr _ _ ⟨by omega, by simp <;> omega, by simpa using h20⟩ (by simp <;> omega) ?_
    rw [hf, show ((A.length : Int) + 1).toNat = (A ++ [f']).length by simp, show A ++ f' :: r = (A ++ [f']) ++ r by simp, List.take_left, List.drop_left]
    simp
  refine gC ⟨h0, hlt⟩ fun _ => gL fun o ho => ?_
  subst ho
  cases r with
  | nil => exact gD (fun h => by simp at h) fun _ => done _ rfl
  | cons g r =>
    refine gD (fun h => gC ⟨by omega, by omega⟩ fun _ => gC ⟨by omega, by omega⟩ fun _ => ?_) fun h => by simp at h; omega
    rw [get_mid, set_mid, show ((A.length : Int) + 1).toNat = A.length + 1 by omega, get_mid1]
    exact done _ rfl
theorem cutroomlaw03_joined_ok : cutroomlaw03_joined_Obl cutroomlaw03_joined_pre cutroomlaw03_joined_S := by
  intro l pads _ _ ⟨h1, h2⟩ R k Good hk
  refine gNeed ⟨by omega, by omega, h1, h2, by simp, by simp⟩ fun _ => gS (fun a ha => by cases ha) fun a ha => ?_
  have ea : a = (joinB pads 0 l, joinW pads 0 0 l) := by
    unfold cutroomlaw03_joined_L4_S at ha
    simpa using ha.symm
  subst ea
  have hw : ∀ (l : List D_api_Unit) i off, (joinW pads i off l).length = l.length := by
    intro l
    induction l with
    | nil => intros; rfl
    | cons u r ih => intros; simp [joinW, ih]
  refine gNeed ⟨by omega, by omega, by simp only [hw]; exact h1⟩ fun _ => gL fun o ho => ?_
  subst ho
  exact hk

theorem formed_iff {l : List D_api_Unit} (h : cutroomlaw03_formed_S l = true) : l.length ≤ 20 ∧ l.all okUnit = true := by
  unfold cutroomlaw03_formed_S at h
  simpa using h
theorem W_len {pads : List Int} {n : Int} : ∀ (l : List D_api_Unit) i off, (nextW n (joinW pads i off l)).length = l.length
  | [], _, _ => rfl
  | u :: r, i, off => by
    have := W_len (pads := pads) (n := n) r (i + 1) (off + padOf pads i + (fmt u).length)
    simp only [joinW, nextW, List.length_cons, this]
theorem split_joined {l : List D_api_Unit} {pads : List Int} (h : l.all okUnit = true) : splitS (joinB pads 0 l) = (nextW (joinB pads 0 l).length (joinW pads 0 0 l), []) := by
  obtain ⟨h1, h2⟩ := split_join pads l 0 [] _ (fun u hu => (all_ok h u hu).2) rfl
  simp only [List.nil_append, List.length_nil] at h1 h2
  rw [show ((0 : Nat) : Int) = 0 from rfl] at h1 h2
  have hz : trimL (cutL (joinB pads 0 l) 0 (nextC (joinB pads 0 l) 0).toNat) = 0 := by
    rw [h1, Int.toNat_natCast, cutL_zero]
    cases l with
    | nil => simp [joinB, trimL_nil]
    | cons u r =>
      simp only [Nat.zero_add, joinB]
      rw [List.take_append_of_le_length (by simp), List.take_of_length_le (by simp)]
      have := trim_pad [] (padOf pads 0)
      rw [List.nil_append, trimL_nil] at this
      exact this
  unfold splitS
  rw [h2, hz]
  rfl
theorem cutroomlaw03_StartcodeBack_L10_ok : cutroomlaw03_StartcodeBack_L10_Obl cutroomlaw03_StartcodeBack_L10_pre cutroomlaw03_StartcodeBack_L10_mu cutroomlaw03_StartcodeBack_L10_S := by
  intro want got i _ _ hg ⟨he, h0⟩ R rec ex0 ex1 Good hr hx0 hx1
  subst he
  have hm := okSl hg
  unfold cutroomlaw03_StartcodeBack_L10_mu cutroomlaw03_StartcodeBack_L10_pre at hr
  refine gD (fun hlt => ?_) fun _ => hx1 rfl
  refine gC (by omega) fun _ => gL fun x hx => gC (by omega) fun _ => gL fun y hy => gNeed trivial fun _ => gL fun r hrr => ?_
  rw [← hx] at hy
  rw [hy, same_refl] at hrr
  subst hrr
  rw [w64 (by omega) (by omega)]
  exact gNB (fun h => by cases h) fun _ => hr _ ⟨rfl, by omega⟩ (by omega) rfl
theorem cutroomlaw03_StartcodeBack_ok : cutroomlaw03_StartcodeBack_Obl cutroomlaw03_StartcodeBack_pre cutroomlaw03_StartcodeBack_S := by
  intro l pads _ _ _ R k Good hk
  refine gNeed trivial fun _ => gL fun f hf => gNB (fun _ => awake_pass hk) fun hft => ?_
  rw [hf] at hft
  obtain ⟨h20, hall⟩ := formed_iff hft
  have hlen := joinB_len (pads := pads) l 0 hall
  refine gNeed ⟨h20, hall⟩ fun _ => gL fun a ha => gNB (fun h => by rw [ha] at h; cases h) fun _ => ?_
  subst ha
  refine gNeed (by show small (joinB pads 0 l); unfold small; omega) fun _ => gL fun s hs => ?_
  have hs' : s = (nextW (joinB pads 0 l).length (joinW pads 0 0 l), []) := hs.trans (split_joined hall)
  subst hs'
  refine gN (fun h => absurd rfl h) fun _ => gN (fun h => absurd rfl h) fun _ => gNeed ⟨rfl, by omega⟩ fun _ => gS (fun a ha => by cases ha) fun _ _ => awake_pass hk
theorem cutroomlaw03_StartcodeBack_law (l : List D_api_Unit) (pads : List Int) (_ : okT (.sl T_api_Unit) l) (_ : okT (.sl (.int .i64)) pads) : cutroomlaw03_StartcodeBack_pre l pads ∧ cutroomlaw03_StartcodeBack_S l pads = true := ⟨trivial, rfl⟩

/-! ### units after any bytes -/
theorem jump {A Z : List Int} (hZ : startsC Z) {i : Nat} (h : i < A.length) (hc : isCode (A ++ Z) (i : Int) = true) : i + 4 ≤ A.length := by
  have hz := isC_iff.1 hZ.1
  rw [isC_iff] at hc
  obtain ⟨_, _, c2, c3⟩ := hc
  refine Nat.not_lt.1 fun hn => ?_
  rcases (show i + 1 = A.length ∨ i + 2 = A.length ∨ i + 3 = A.length by omega) with e | e | e
  · rw [show i + 2 = A.length + 1 by omega, gApp, hz.2.1] at c2; omega
  · rw [show i + 2 = A.length + 0 by omega, gApp, hz.1] at c2; omega
  · rw [show i + 3 = A.length + 0 by omega, gApp, hz.1] at c3; omega
theorem seq_prefix {A Z : List Int} (hZ : startsC Z) : ∀ (m i : Nat), A.length - i ≤ m → i ≤ A.length → ∃ P, seqC (A ++ Z) (i : Int) = P ++ seqC (A ++ Z) A.length
  | 0, i, hm, hi => ⟨[], by rw [show i = A.length by omega]; rfl⟩
  | m + 1, i, hm, hi => by
    by_cases e : i = A.length
    · exact ⟨[], by rw [e]; rfl⟩
    cases hc : isCode (A ++ Z) (i : Int) with
    | true =>
      have hj := jump hZ (by omega) hc
      obtain ⟨P, hP⟩ := seq_prefix (A := A) hZ m (i + 4) (by omega) (by omega)
      refine ⟨(i : Int) :: P, ?_⟩
      unfold seqC at hP ⊢
      rw [(code_here hc (by simp; omega)).1, show ((i : Int) + 4) = ((i + 4 : Nat) : Int) by omega, List.cons_append, hP]
      rfl
    | false =>
      obtain ⟨P, hP⟩ := seq_prefix (A := A) hZ m (i + 1) (by omega) (by omega)
      refine ⟨P, ?_⟩
      unfold seqC at hP ⊢
      rw [codes_step hc, show ((i : Int) + 1) = ((i + 1 : Nat) : Int) by omega, hP]
theorem goS_pre (b s : List Int) (hs : s ≠ []) : ∀ P, ∃ Q, (goS b (P ++ s)).1 = Q ++ (goS b s).1
  | [] => ⟨[], rfl⟩
  | a :: P => by
    obtain ⟨Q, hQ⟩ := goS_pre b s hs P
    cases hd : P ++ s with
    | nil => simp at hd; exact absurd hd.2 hs
    | cons n t =>
      rw [List.cons_append, hd, goS_step]
      rw [hd] at hQ
      cases one b a n with
      | inl f => exact ⟨f :: Q, by simp [hQ]⟩
      | inr d => exact ⟨Q, by simp [hQ]⟩
theorem split_prefix {A Z : List Int} (hZ : startsC Z) : ∃ Q, (splitS (A ++ Z)).1 = Q ++ (goS (A ++ Z) (seqC (A ++ Z) A.length)).1 := by
  obtain ⟨P, hP⟩ := seq_prefix hZ _ 0 (Nat.le_refl _) (Nat.zero_le _)
  obtain ⟨Q, hQ⟩ := goS_pre (A ++ Z) (seqC (A ++ Z) A.length) (by unfold seqC; simp) P
  exact ⟨Q, by unfold splitS; rw [show (0 : Int) = ((0 : Nat) : Int) from rfl, hP]; exact hQ⟩
theorem padOf_nil (i : Nat) : padOf [] i = 0 := by unfold padOf; rw [if_neg (by simp)]
theorem starts_join {u : D_api_Unit} {r : List D_api_Unit} (h : fOk u) (i : Nat) : startsC (joinB [] i (u :: r)) := by
  rw [joinB, padOf_nil]; exact starts_fmt h _
def hdN (n : Int) (r : List D_startcode_Found) : Int := match r with
  | [] => n
  | g :: _ => g.2.1
theorem nextW_cons (n : Int) (f : D_startcode_Found) (r : List D_startcode_Found) : nextW n (f :: r) = setN (hdN n r) f :: nextW n r := by cases r <;> rfl
theorem joinW_cons (pads : List Int) (i : Nat) (off : Int) (u : D_api_Unit) (r : List D_api_Unit) : joinW pads i off (u :: r) = (u, off + padOf pads i, off + padOf pads i + (fmt u).length, 0, ()) :: joinW pads (i + 1) (off + padOf pads i + (fmt u).length) r := rfl
theorem goS_len (b : List Int) : ∀ l, (goS b l).1.length ≤ l.length
  | [] => by unfold goS; exact Nat.le_refl _
  | [a] => by rw [goS_end]; simp
  | a :: n :: r => by
    have := goS_len b (n :: r)
    rw [goS_step]
    cases one b a n with
    | inl f => simp at this ⊢; omega
    | inr d => simp at this ⊢; omega
theorem W_shift {pads : List Int} {n x : Int} : ∀ (l : List D_api_Unit) (i : Nat) (off : Int), nextW (n + x) (joinW pads i (off + x) l) = (nextW n (joinW pads i off l)).map (shiftF x)
  | [], _, _ => rfl
  | [u], i, off => by
    simp only [joinW, nextW, setN, List.map_cons, List.map_nil, shiftF, Prod.mk.injEq, and_true, List.cons.injEq, true_and]
    omega
  | u :: v :: r, i, off => by
    have := W_shift (pads := pads) (n := n) (x := x) (v :: r) (i + 1) (off + padOf pads i + (fmt u).length)
    rw [joinW_cons pads i (off + x) u, joinW_cons pads i off u, nextW_cons, nextW_cons, List.map_cons, ← this, show off + x + padOf pads i + (fmt u).length = off + padOf pads i + (fmt u).length + x by omega]
    simp only [joinW, setN, hdN, shiftF, Prod.mk.injEq, and_true, List.cons.injEq, true_and]
    omega
theorem W_bounds {pads : List Int} {n : Int} : ∀ (l : List D_api_Unit) (i : Nat) (off : Int), 0 ≤ off → off + (joinB pads i l).length ≤ n → n ≤ 10000 →
    ∀ f ∈ nextW n (joinW pads i off l), (0 ≤ f.2.1 ∧ f.2.1 ≤ 10000) ∧ (0 ≤ f.2.2.1 ∧ f.2.2.1 ≤ 10000) ∧ (0 ≤ f.2.2.2.1 ∧ f.2.2.2.1 ≤ 10000)
  | [], _, _, _, _, _, f, hf => by simp [joinW, nextW] at hf
  | u :: r, i, off, h0, h1, h2, f, hf => by
    have hl : (joinB pads i (u :: r)).length = padOf pads i + ((fmt u).length + (joinB pads (i + 1) r).length) := by simp [joinB]
    rw [hl] at h1
    rw [joinW, nextW_cons, List.mem_cons] at hf
    rcases hf with rfl | hf
    · cases r with
      | nil => simp only [joinW, setN, hdN]; omega
      | cons v r' =>
        have hl2 : (joinB pads (i + 1) (v :: r')).length = padOf pads (i + 1) + ((fmt v).length + (joinB pads (i + 1 + 1) r').length) := by simp [joinB]
        rw [hl2] at h1
        simp only [joinW, setN, hdN]; omega
    · exact W_bounds r (i + 1) _ (by omega) (by omega) h2 f hf
theorem cutroomlaw03_StartcodeResync_L11_ok : cutroomlaw03_StartcodeResync_L11_Obl cutroomlaw03_StartcodeResync_L11_pre cutroomlaw03_StartcodeResync_L11_mu cutroomlaw03_StartcodeResync_L11_S := by
  intro x off len want got i _ _ hw hg ⟨h0, hl, hd, h200, hf⟩ R rec ex0 ex1 Good hr hx0 hx1
  have hm := okSl hw
  unfold cutroomlaw03_StartcodeResync_L11_mu cutroomlaw03_StartcodeResync_L11_pre at hr
  refine gD (fun hlt => ?_) fun _ => hx1 rfl
  have hi : i.toNat < want.length := by omega
  have hmem : want.getD i.toNat Z_startcode_Found ∈ want := by
    rw [show want.getD i.toNat Z_startcode_Found = want[i.toNat] by simp [List.getD, List.getElem?_eq_getElem hi]]
    exact List.getElem_mem _
  obtain ⟨b1, b2, b3⟩ := hf _ hmem
  have hgot : got.getD (off + i.toNat) Z_startcode_Found = shiftF x.length (want.getD i.toNat Z_startcode_Found) := by
    have : (got.drop off).getD i.toNat Z_startcode_Found = got.getD (off + i.toNat) Z_startcode_Found := by simp [List.getD]
    rw [← this, hd]
    simp [List.getD, List.getElem?_eq_getElem hi]
  refine gC ⟨h0, by omega⟩ fun _ => gL fun w hw' => ?_
  rw [← hw'] at hgot b1 b2 b3
  refine gL fun x32 h32 => gL fun x33 h33 => gL fun x34 h34 => gC ⟨h0, by omega⟩ fun _ => gL fun y hy => gNeed trivial fun _ => gL fun r hrr => ?_
  have he : x34 = y := by
    rw [hy, hgot, h34, h33, h32]
    simp only [shiftF]
    rw [w64 (by omega) (by omega), w64 (by omega) (by omega), w64 (by omega) (by omega)]
  rw [he, same_refl] at hrr
  subst hrr
  rw [w64 (by omega) (by omega)]
  exact gNB (fun h => by cases h) fun _ => hr _ ⟨by omega, hl, hd, h200, hf⟩ (by omega) rfl
theorem cutroomlaw03_StartcodeResync_ok : cutroomlaw03_StartcodeResync_Obl cutroomlaw03_StartcodeResync_pre cutroomlaw03_StartcodeResync_S := by
  intro x l _ _ _ R k Good hk
  have hroom := room_eq
  refine gD (fun _ => awake_pass hk) fun h200 => gE (fun _ => awake_pass hk) fun hne => gNeed trivial fun _ => gL fun f hf => gNB (fun _ => awake_pass hk) fun hft => ?_
  rw [hf] at hft
  obtain ⟨h20, hall⟩ := formed_iff hft
  have hlen := joinB_len (pads := []) l 0 hall
  refine gNeed ⟨h20, hall⟩ fun _ => gL fun a ha => gNB (fun h => by rw [ha] at h; cases h) fun _ => ?_
  subst ha
  show Good (if 0 < 1 ∧ (([] : List Int).length + x.length) * 1 ≤ room then _ else none)
  refine gC ⟨by decide, by simp only [List.length_nil]; omega⟩ fun _ => gL fun o ho => ?_
  rw [List.nil_append] at ho
  subst ho
  refine gC ⟨by decide, by show (o.length + (joinB [] 0 l).length) * 1 ≤ room; omega⟩ fun _ => ?_
  refine gNeed (by show small (o ++ joinB [] 0 l); unfold small; simp only [List.length_append]; omega) fun _ => gL fun s hs => ?_
  obtain ⟨u, r, rfl⟩ : ∃ u r, l = u :: r := by
    cases l with
    | nil => exact absurd rfl hne
    | cons u r => exact ⟨u, r, rfl⟩
  have hok := all_ok hall
  obtain ⟨Q, hQ⟩ := split_prefix (A := o) (starts_join (hok u (by simp)).2 0 (r := r))
  rw [(split_join [] (u :: r) 0 o _ (fun v hv => (hok v hv).2) rfl).2] at hQ
  simp only at hQ
  have e1 : (((o ++ joinB [] 0 (u :: r)).length : Nat) : Int) = ((joinB [] 0 (u :: r)).length : Int) + (o.length : Int) := by simp; omega
  have e2 : (o.length : Int) = 0 + (o.length : Int) := by omega
  rw [e1, e2, ← e2, show joinW [] 0 (o.length : Int) (u :: r) = joinW [] 0 (0 + (o.length : Int)) (u :: r) by rw [← e2], W_shift] at hQ
  have hs1 : s.1 = Q ++ (nextW (joinB [] 0 (u :: r)).length (joinW [] 0 0 (u :: r))).map (shiftF o.length) := by rw [hs]; exact hQ
  have hsl : s.1.length = Q.length + (nextW (joinB [] 0 (u :: r)).length (joinW [] 0 0 (u :: r))).length := by rw [hs1]; simp
  refine gD (fun h => ?_) fun _ => gL fun y hy => ?_
  · exfalso
    simp only [cutroomlaw03_joined_S] at h
    omega
  have hQl : Q.length ≤ 100000 := by
    have h1 := goS_len (o ++ joinB [] 0 (u :: r)) (seqC (o ++ joinB [] 0 (u :: r)) 0)
    have h2 := seqC_len (b := o ++ joinB [] 0 (u :: r))
    have h3 : s.1 = (goS (o ++ joinB [] 0 (u :: r)) (seqC (o ++ joinB [] 0 (u :: r)) 0)).1 := by rw [hs]; rfl
    rw [← h3] at h1
    have h4 : (o ++ joinB [] 0 (u :: r)).length = o.length + (joinB [] 0 (u :: r)).length := by simp
    omega
  have hy' : y = (Q.length : Int) := by
    rw [hy]
    simp only [cutroomlaw03_joined_S]
    rw [hsl, show (((Q.length + (nextW (joinB [] 0 (u :: r)).length (joinW [] 0 0 (u :: r))).length : Nat) : Int) - (nextW (joinB [] 0 (u :: r)).length (joinW [] 0 0 (u :: r))).length) = (Q.length : Int) by omega, w64 (by omega) (by omega)]
  refine gC ⟨by omega, by omega⟩ fun _ => ?_
  refine gNeed ⟨by omega, ?_, ?_, by omega, ?_⟩ fun _ => gS (fun a ha => by cases ha) fun _ _ => awake_pass hk
  · rw [hy', hsl, Int.toNat_natCast, Nat.add_sub_cancel_left]; rfl
  · rw [hy', Int.toNat_natCast, hs1, List.drop_left]; rfl
  · exact W_bounds (u :: r) 0 0 (by omega) (by omega) (by omega)
theorem cutroomlaw03_StartcodeResync_law (x : List Int) (l : List D_api_Unit) (_ : okT (.sl (.int .u8)) x) (_ : okT (.sl T_api_Unit) l) : cutroomlaw03_StartcodeResync_pre x l ∧ cutroomlaw03_StartcodeResync_S x l = true := ⟨trivial, rfl⟩

/-! ### a damaged unit -/
theorem joinB_cons (i : Nat) (u : D_api_Unit) (r : List D_api_Unit) : joinB [] i (u :: r) = fmt u ++ joinB [] (i + 1) r := by rw [joinB, padOf_nil]; rfl
theorem joinB_app : ∀ (l1 l2 : List D_api_Unit) (i : Nat), joinB [] i (l1 ++ l2) = joinB [] i l1 ++ joinB [] (i + l1.length) l2
  | [], l2, i => rfl
  | u :: r, l2, i => by
    rw [List.cons_append, joinB_cons, joinB_cons, joinB_app r l2 (i + 1), List.append_assoc, List.length_cons, show i + 1 + r.length = i + (r.length + 1) by omega]
theorem W_get : ∀ (l1 : List D_api_Unit) (u : D_api_Unit) (l2 : List D_api_Unit) (i : Nat) (off n : Int), n = off + (joinB [] i (l1 ++ u :: l2)).length →
    (nextW n (joinW [] i off (l1 ++ u :: l2))).getD l1.length Z_startcode_Found = (u, off + (joinB [] i l1).length, off + (joinB [] i l1).length + (fmt u).length, off + (joinB [] i l1).length + (fmt u).length, ())
  | [], u, l2, i, off, n, hn => by
    rw [List.nil_append, joinB_cons, List.length_append] at hn
    rw [List.nil_append, joinW_cons, nextW_cons, padOf_nil]
    cases l2 with
    | nil =>
      simp only [joinB, List.length_nil] at hn
      simp only [List.length_nil, List.getD_cons_zero, setN, hdN, joinW, joinB, Prod.mk.injEq, and_true, true_and]
      omega
    | cons v r =>
      simp only [List.length_nil, List.getD_cons_zero, setN, hdN, joinW, joinB, padOf_nil, Prod.mk.injEq, and_true, true_and]
      omega
  | w :: t, u, l2, i, off, n, hn => by
    rw [List.cons_append, joinB_cons, List.length_append] at hn
    rw [List.cons_append, joinW_cons, nextW_cons, padOf_nil, List.length_cons, List.getD_cons_succ, W_get t u l2 (i + 1) _ n (by omega), joinB_cons, List.length_append]
    simp only [Prod.mk.injEq, and_true, true_and]
    omega
theorem found_in {A Z : List Int} {u : D_api_Unit} (hu : fOk u) (hZ : Z = [] ∨ startsC Z) :
    (u, (A.length : Int), (A.length : Int) + (fmt u).length, (A.length : Int) + (fmt u).length, ()) ∈ (splitS (A ++ (fmt u ++ Z))).1 := by
  obtain ⟨Q, hQ⟩ := split_prefix (A := A) (starts_fmt hu Z)
  rw [hQ, seq_unit hu]
  obtain ⟨q, hq⟩ := seqC_cons (b := A ++ (fmt u ++ Z)) (i := ((A.length + (fmt u).length : Nat) : Int)) (by omega)
  have hn : nextC (A ++ (fmt u ++ Z)) ((A.length + (fmt u).length : Nat) : Int) = (A.length + (fmt u).length : Nat) := by
    rcases hZ with rfl | hZ
    · have := (at_end (b := A ++ (fmt u ++ []))).2
      rw [show (A ++ (fmt u ++ ([] : List Int))).length = A.length + (fmt u).length by simp] at this
      exact this
    · have hc : isCode ((A ++ fmt u) ++ Z) (((A ++ fmt u).length + 0 : Nat) : Int) = true := isC_app.2 hZ.1
      rw [List.append_assoc, List.length_append, Nat.add_zero] at hc
      exact (code_here hc (by have := hZ.2; simp; omega)).2
  rw [hq, goS_step, hn]
  have ho := one_unit (A := A) (Z := Z) hu 0
  simp only [List.replicate_zero, List.nil_append, Nat.add_zero] at ho
  rw [ho, show ((A.length + (fmt u).length : Nat) : Int) = (A.length : Int) + (fmt u).length by omega]
  simp
theorem starts_set {Z : List Int} {q : Nat} {v : Int} (hZ : startsC Z) (hq : 4 ≤ q) : startsC (Z.set q v) := by
  have e : ∀ j, j < 4 → (Z.set q v).getD j 0 = Z.getD j 0 := fun j hj => by simp only [List.getD]; rw [List.getElem?_set_ne (by omega)]
  refine ⟨?_, by simpa using hZ.2⟩
  have hz := isC_iff.1 hZ.1
  rw [isC_iff, e _ (by omega), e _ (by omega), e _ (by omega), e _ (by omega)]
  exact hz
theorem starts_or {l : List D_api_Unit} (h : ∀ u ∈ l, fOk u) (i : Nat) : joinB [] i l = [] ∨ startsC (joinB [] i l) := by
  cases l with
  | nil => exact .inl rfl
  | cons u r => exact .inr (starts_join (h u (by simp)) i)
theorem mid_nat {α : Type} {l : List α} {i : Nat} (h : i < l.length) : ∃ A f r, l = A ++ f :: r ∧ i = A.length := by
  obtain ⟨A, f, r, h1, h2⟩ := mid_split (i := (i : Int)) (l := l) (by omega) (by omega)
  exact ⟨A, f, r, h1, by omega⟩
theorem damage {l : List D_api_Unit} (hall : ∀ u ∈ l, fOk u) {k m : Nat} (hk : k < l.length) (hm : m < l.length) (hne : m ≠ k) {p : Nat} {v : Int}
    (hp1 : ((nextW (joinB [] 0 l).length (joinW [] 0 0 l)).getD k Z_startcode_Found).2.1 + 4 ≤ p) (hp2 : (p : Int) < ((nextW (joinB [] 0 l).length (joinW [] 0 0 l)).getD k Z_startcode_Found).2.2.1) :
    (nextW (joinB [] 0 l).length (joinW [] 0 0 l)).getD m Z_startcode_Found ∈ (splitS ((joinB [] 0 l).set p v)).1 := by
  rcases Nat.lt_or_gt_of_ne hne with h | h
  · obtain ⟨l1, u, l2, rfl, rfl⟩ := mid_nat hm
    obtain ⟨t, w, m2, rfl, ht⟩ := mid_nat (l := l2) (i := k - l1.length - 1) (by simp at hk; omega)
    have hu := hall u (by simp)
    have ek : k = (l1 ++ u :: t).length := by simp; omega
    have el : l1 ++ u :: (t ++ w :: m2) = (l1 ++ u :: t) ++ w :: m2 := by simp
    have g := W_get (l1 ++ u :: t) w m2 0 0 (joinB [] 0 (l1 ++ u :: (t ++ w :: m2))).length (by rw [el]; omega)
    rw [← el, ← ek] at g
    rw [g] at hp1 hp2
    rw [W_get l1 u _ 0 0 _ (by omega)]
    have e1 : joinB [] 0 (l1 ++ u :: t) = joinB [] 0 l1 ++ (fmt u ++ joinB [] (0 + l1.length + 1) t) := by rw [joinB_app, joinB_cons]
    have e2 : joinB [] 0 (l1 ++ u :: (t ++ w :: m2)) = (joinB [] 0 l1 ++ fmt u) ++ joinB [] (0 + l1.length + 1) (t ++ w :: m2) := by rw [joinB_app, joinB_cons, List.append_assoc]
    rw [e1] at hp1 hp2
    simp only [List.length_append] at hp1 hp2
    rw [e2, List.set_append_right _ _ (by simp only [List.length_append]; omega), List.append_assoc]
    have hs : startsC (joinB [] (0 + l1.length + 1) (t ++ w :: m2)) := by
      rcases starts_or (l := t ++ w :: m2) (fun v hv => hall v (by simp only [List.mem_append, List.mem_cons] at hv ⊢; exact .inr (.inr hv))) (0 + l1.length + 1) with h | h
      · exfalso
        have hw := (fmt_facts (hall w (by simp))).2.2.2.2
        have := congrArg List.length h
        rw [joinB_app, joinB_cons, List.length_append, List.length_append, List.length_nil] at this
        omega
      · exact h
    have := found_in (A := joinB [] 0 l1) hu (.inr (starts_set (v := v) hs (q := p - (joinB [] 0 l1 ++ fmt u).length) (by simp only [List.length_append]; omega)))
    simpa using this
  · obtain ⟨m1, w, l2, rfl, rfl⟩ := mid_nat hk
    obtain ⟨t, u, m2, rfl, ht⟩ := mid_nat (l := l2) (i := m - m1.length - 1) (by simp at hm; omega)
    have hu := hall u (by simp)
    have em : m = (m1 ++ w :: t).length := by simp; omega
    have el : m1 ++ w :: (t ++ u :: m2) = (m1 ++ w :: t) ++ u :: m2 := by simp
    rw [W_get m1 w _ 0 0 _ (by omega)] at hp1 hp2
    have g := W_get (m1 ++ w :: t) u m2 0 0 (joinB [] 0 (m1 ++ w :: (t ++ u :: m2))).length (by rw [el]; omega)
    rw [← el, ← em] at g
    rw [g]
    have e1 : joinB [] 0 (m1 ++ w :: t) = joinB [] 0 m1 ++ (fmt w ++ joinB [] (0 + m1.length + 1) t) := by rw [joinB_app, joinB_cons]
    have e2 : joinB [] 0 (m1 ++ w :: (t ++ u :: m2)) = joinB [] 0 (m1 ++ w :: t) ++ (fmt u ++ joinB [] (0 + (m1 ++ w :: t).length + 1) m2) := by rw [el, joinB_app, joinB_cons]
    have e3 : (joinB [] 0 (m1 ++ w :: t)).length = (joinB [] 0 m1).length + ((fmt w).length + (joinB [] (0 + m1.length + 1) t).length) := by rw [e1]; simp
    simp only at hp1 hp2
    rw [e2, List.set_append_left _ _ (by omega)]
    have := found_in (A := (joinB [] 0 (m1 ++ w :: t)).set p v) hu (starts_or (l := m2) (fun v hv => hall v (by simp [hv])) (0 + (m1 ++ w :: t).length + 1))
    simpa using this
theorem cutroomlaw03_StartcodeDamage_L20_ok : cutroomlaw03_StartcodeDamage_L20_Obl cutroomlaw03_StartcodeDamage_L20_pre cutroomlaw03_StartcodeDamage_L20_mu cutroomlaw03_StartcodeDamage_L20_S := by
  intro k i want got found j _ _ _ _ hw hg ⟨h0, h1, hj⟩ R rec ex Good hr hx
  have hm := okSl hg
  unfold cutroomlaw03_StartcodeDamage_L20_S at hr hx
  unfold cutroomlaw03_StartcodeDamage_L20_mu cutroomlaw03_StartcodeDamage_L20_pre at hr
  refine gD (fun hlt => ?_) fun hge => hx _ (by rw [List.drop_eq_nil_of_le (by omega)]; simp)
  rw [w64 (by omega) (by omega)]
  refine gB (fun hf => ?_) fun hf => gC ⟨hj, hlt⟩ fun _ => gL fun x hx' => gC ⟨h0, h1⟩ fun _ => gL fun y hy => gNeed trivial fun _ => gL fun r hrr => ?_
  · subst hf
    exact hr _ _ ⟨h0, h1, by omega⟩ (by omega) (by simp)
  · subst hf
    rw [dropAt hj hlt Z_startcode_Found] at hr
    refine hr _ _ ⟨h0, h1, by omega⟩ (by omega) ?_
    rw [hrr, hx', hy]; simp
theorem cutroomlaw03_StartcodeDamage_L15_ok : cutroomlaw03_StartcodeDamage_L15_Obl cutroomlaw03_StartcodeDamage_L15_pre cutroomlaw03_StartcodeDamage_L15_mu cutroomlaw03_StartcodeDamage_L15_S := by
  intro k want got i _ _ _ _ ⟨h0, h20, hall⟩ R rec ex0 ex1 Good hr hx0 hx1
  unfold cutroomlaw03_StartcodeDamage_L15_mu cutroomlaw03_StartcodeDamage_L15_pre at hr
  refine gD (fun hlt => ?_) fun _ => hx1 rfl
  rw [w64 (by omega) (by omega)]
  refine gE (fun _ => hr _ ⟨by omega, h20, hall⟩ (by omega) rfl) fun hne => gNeed ⟨h0, hlt, by omega⟩ fun _ => gL fun r hrr => gNB (fun h => ?_) fun _ => hr _ ⟨by omega, h20, hall⟩ (by omega) rfl
  exfalso
  have hmem := hall i.toNat (by omega) (by omega)
  have : cutroomlaw03_StartcodeDamage_L20_S k i want got false 0 = true := by
    unfold cutroomlaw03_StartcodeDamage_L20_S
    rw [Bool.false_or, List.any_eq_true]
    exact ⟨_, by simpa using hmem, same_refl _⟩
  rw [hrr, this] at h
  cases h
theorem cutroomlaw03_StartcodeDamage_ok : cutroomlaw03_StartcodeDamage_Obl cutroomlaw03_StartcodeDamage_pre cutroomlaw03_StartcodeDamage_S := by
  intro l k at_ by_ _ _ hat _ _ R K Good hk
  have hai := okInt hat
  refine gE (fun _ => awake_pass hk) fun hne => gNeed trivial fun _ => gL fun f hf => gNB (fun _ => awake_pass hk) fun hft => ?_
  rw [hf] at hft
  obtain ⟨h20, hall⟩ := formed_iff hft
  have hlen := joinB_len (pads := []) l 0 hall
  have hok := all_ok hall
  refine gD (fun _ => awake_pass hk) fun hk0 => gD (fun _ => awake_pass hk) fun hk1 => gD (fun _ => awake_pass hk) fun ha0 => gE (fun _ => awake_pass hk) fun _ => ?_
  refine gNeed ⟨h20, hall⟩ fun _ => gL fun a ha => gNB (fun h => by rw [ha] at h; cases h) fun _ => ?_
  have ha1 : a.2.1 = joinB [] 0 l := by rw [ha]; rfl
  have ha2 : a.2.2 = nextW (joinB [] 0 l).length (joinW [] 0 0 l) := by rw [ha]; rfl
  have hwl : a.2.2.length = l.length := by rw [ha2, W_len]
  have hg : ∃ w m1 m2, l = m1 ++ w :: m2 ∧ k.toNat = m1.length ∧ a.2.2.getD k.toNat Z_startcode_Found = (w, ((joinB [] 0 m1).length : Int), ((joinB [] 0 m1).length : Int) + (fmt w).length, ((joinB [] 0 m1).length : Int) + (fmt w).length, ()) := by
    obtain ⟨m1, w, m2, e1, e2⟩ := mid_nat (l := l) (i := k.toNat) (by omega)
    refine ⟨w, m1, m2, e1, e2, ?_⟩
    have := W_get m1 w m2 0 0 (joinB [] 0 l).length (by rw [e1]; omega)
    rw [← e1, ← e2] at this
    rw [ha2, this]
    simp only [Prod.mk.injEq, and_true, true_and]
    omega
  obtain ⟨w, m1, m2, el, ek, hgk⟩ := hg
  have hJ : (joinB [] 0 l).length = (joinB [] 0 m1).length + ((fmt w).length + (joinB [] (0 + m1.length + 1) m2).length) := by rw [el, joinB_app, joinB_cons]; simp
  have hw4 := (fmt_facts (hok w (by rw [el]; simp)).2).2.2.2.2
  have hc : 0 ≤ k ∧ k < (a.2.2.length : Int) := ⟨by omega, by omega⟩
  refine gC hc fun _ => gC hc fun _ => gL fun x20 h20' => ?_
  rw [hgk] at h20'
  simp only at h20'
  rw [w64 (x := ((joinB [] 0 m1).length : Int) + (fmt w).length - (joinB [] 0 m1).length) (by omega) (by omega), w64 (by omega) (by omega)] at h20'
  refine gD (fun _ => awake_pass hk) fun hx20 => gC hc fun _ => gNone (by omega) fun _ => gL fun p hp => ?_
  have t1 := Int.tmod_nonneg x20 (show 0 ≤ at_ by omega)
  have t2 := Int.tmod_lt_of_pos at_ (show 0 < x20 by omega)
  rw [hgk] at hp
  simp only at hp
  rw [w64 (x := ((joinB [] 0 m1).length : Int) + 4) (by omega) (by omega), w64 (by omega) (by omega)] at hp
  refine gD (fun h => by exfalso; rw [ha1] at h; omega) fun hpl => gC ⟨by omega, by omega⟩ fun _ => gC ⟨by omega, by omega⟩ fun _ => gL fun b hb => ?_
  have hbl : b.length = (joinB [] 0 l).length := by rw [hb, ha1]; simp
  refine gNeed (by show small b; unfold small; omega) fun _ => gL fun s hs => gNeed ⟨by omega, by omega, fun m hm hmk => ?_⟩ fun _ => gS (fun a ha => by cases ha) fun _ _ => awake_pass hk
  have hs' : s = splitS b := hs
  rw [ha2] at hgk
  have := damage (fun u hu => (hok u hu).2) (k := k.toNat) (m := m) (by omega) (by omega) (by omega) (p := p.toNat) (v := bxor .u8 (a.2.1.getD p.toNat 0) by_) (by rw [hgk]; simp only; omega) (by rw [hgk]; simp only; omega)
  rw [hs', ha2, hb, ha1] 
  rw [ha1] at this
  exact this
theorem cutroomlaw03_StartcodeDamage_law (l : List D_api_Unit) (k_ : Int) (at_ : Int) (by_ : Int) (_ : okT (.sl T_api_Unit) l) (_ : okT (.int .i64) k_) (_ : okT (.int .i64) at_) (_ : okT (.int .u8) by_) : cutroomlaw03_StartcodeDamage_pre l k_ at_ by_ ∧ cutroomlaw03_StartcodeDamage_S l k_ at_ by_ = true := ⟨trivial, rfl⟩

end Go.Proofs.Ytjelaopafhnlnaa
