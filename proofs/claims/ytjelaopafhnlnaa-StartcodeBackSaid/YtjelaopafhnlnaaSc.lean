/- What functions of the program compute, and that the printed trees compute it. -/
import Derived.Test.YtjelaopafhnlnaaEngC
set_option linter.unusedVariables false
set_option maxRecDepth 100000
namespace Go.Proofs.Ytjelaopafhnlnaa
open Go Go.Eng Go.Proofs
abbrev T_startcode_Defect : Ty := (.pair (.int .i64) (.pair (.int .i64) .unit))
abbrev D_startcode_Defect : Type := Int × Int × Unit
abbrev Z_startcode_Defect : D_startcode_Defect := (0, (0, ()))
abbrev T_api_Unit : Ty := (.pair (.int .i64) (.pair (.sl (.int .u8)) .unit))
abbrev D_api_Unit : Type := Int × (List Int) × Unit
abbrev Z_api_Unit : D_api_Unit := (0, ([], ()))
abbrev T_startcode_Found : Ty := (.pair T_api_Unit (.pair (.int .i64) (.pair (.int .i64) (.pair (.int .i64) .unit))))
abbrev D_startcode_Found : Type := D_api_Unit × Int × Int × Int × Unit
abbrev Z_startcode_Found : D_startcode_Found := (Z_api_Unit, (0, (0, (0, ()))))
/-! ### what the functions of startcode and its reference compute -/
/-- escapes: z zeros stand before -/
def escL : Int → List Int → List Int
  | _, [] => []
  | z, c :: p => if 2 ≤ z ∧ c < 4 then 3 :: c :: escL (if c = 0 then 1 else 0) p else c :: escL (if c = 0 then z + 1 else 0) p
/-- zeros at a list's end -/
def tz (l : List Int) : Int := ((l.reverse.takeWhile (· == 0)).length : Int)
def endsZero (l : List Int) : Bool := match l.getLast? with
  | some c => c == 0
  | none => false
def escR (p : List Int) : Int × List Int := if endsZero p then (3, []) else (0, escL 0 p)
/-- what the program's Unescape has read -/
def unL : Int → List Int → List Int → (Int × List Int × List Int) ⊕ List Int
  | _, [], out => .inr out
  | z, c :: r, out =>
    if 2 ≤ z ∧ c < 4 then
      if c = 3 ∧ r ≠ [] ∧ r.headD 0 < 4 then unL 0 r out else .inl (3, [], out)
    else unL (if c = 0 then z + 1 else 0) r (out ++ [c])
/-- what the reference's Unescape strips -/
def stripL : Int → List Int → List Int
  | _, [] => []
  | z, c :: r => if z = 2 ∧ c = 3 then stripL 0 r else c :: stripL (if c = 0 then min (z + 1) 2 else 0) r

def startcode_escaped_L3_pre (x1 : List Int) (x2 : Int) (zeros : Int) (x3 : Int) (out4 : List Int) : Prop :=
  x2 = x1.length ∧ 0 ≤ x3 ∧ x3 ≤ x2 ∧ 0 ≤ zeros ∧ zeros ≤ x3 ∧ (out4.length : Int) + 2 * (x2 - x3) ≤ room
def startcode_escaped_L3_mu (_ : List Int) (x2 : Int) (_ : Int) (x3 : Int) (_ : List Int) : Nat := (x2 - x3).toNat
def startcode_escaped_L3_S (x1 : List Int) (_ : Int) (zeros : Int) (x3 : Int) (out4 : List Int) : List Int := out4 ++ escL zeros (x1.drop x3.toNat)
def startcode_escaped_pre (payload : List Int) (out : List Int) : Prop := out.length + 2 * payload.length ≤ room
def startcode_escaped_S (payload : List Int) (out : List Int) : List Int := out ++ escL 0 payload
def startcode_Format_pre (u : D_api_Unit) : Prop := 4 + 2 * u.2.1.length ≤ room
def startcode_Format_S (u : D_api_Unit) : Int × List Int :=
  if u.1 < 1 ∨ 255 < u.1 then (1, []) else if endsZero u.2.1 then (3, []) else (0, [0, 0, 1, u.1] ++ escL 0 u.2.1)
def cutroomref03_Escape_L5_pre (p7 : List Int) (i : Int) (out : List Int) : Prop := 0 ≤ i ∧ i ≤ p7.length ∧ (out.length : Int) + 2 * (p7.length - i) ≤ room
def cutroomref03_Escape_L5_mu (p7 : List Int) (i : Int) (_ : List Int) : Nat := (p7.length - i).toNat
def cutroomref03_Escape_L5_S (p7 : List Int) (i : Int) (out : List Int) : List Int := out ++ escL (tz out) (p7.drop i.toNat)
def cutroomref03_Escape_pre (p : List Int) : Prop := 2 * p.length ≤ room
def cutroomref03_Escape_S (p : List Int) : Int × List Int := escR p
def cutroomref03_Format_pre (u : D_api_Unit) : Prop := 4 + 2 * u.2.1.length ≤ room
def cutroomref03_Format_S (u : D_api_Unit) : Int × List Int := startcode_Format_S u
def startcode_Escape_pre (payload : List Int) : Prop := 2 * payload.length ≤ room
def startcode_Escape_S (payload : List Int) : Int × List Int := escR payload
def cutroomref02_SameBytes_pre (_ : List Int) (_ : List Int) : Prop := True
noncomputable def cutroomref02_SameBytes_S (a : List Int) (b : List Int) : Bool := (strL a).toList == (strL b).toList
def cutroomlaw03_awake_pre : Prop := True
def cutroomlaw03_awake_S : Bool := true
def cutroomlaw03_StartcodeFormat_pre (_ : D_api_Unit) : Prop := True
def cutroomlaw03_StartcodeFormat_S (_ : D_api_Unit) : Bool := true
def okUnit (u : D_api_Unit) : Bool := decide (u.2.1.length ≤ 100) && decide ((startcode_Format_S u).1 = 0)
def cutroomlaw03_formed_L4_pre (_ : List D_api_Unit) (i : Int) : Prop := 0 ≤ i
def cutroomlaw03_formed_L4_mu (l2 : List D_api_Unit) (i : Int) : Nat := (l2.length - i).toNat
def cutroomlaw03_formed_L4_S (l2 : List D_api_Unit) (i : Int) : (Bool) ⊕ (Unit) := if (l2.drop i.toNat).all okUnit then .inr () else .inl false
def cutroomlaw03_formed_pre (_ : List D_api_Unit) : Prop := True
def cutroomlaw03_formed_S (l : List D_api_Unit) : Bool := decide (l.length ≤ 20) && l.all okUnit
def cutroomlaw03_StartcodeClean_L7_pre (b : List Int) (i : Int) : Prop := 0 ≤ i ∧ i ≤ b.length ∧ (b.length : Int) ≤ room
def cutroomlaw03_StartcodeClean_L7_mu (b : List Int) (i : Int) : Nat := (b.length - i).toNat
/-- no start code, from here on -/
def cleanL : List Int → Bool
  | a :: b :: c :: r => !(a == 0 && b == 0 && decide (c < 3)) && cleanL (b :: c :: r)
  | _ => true
def cutroomlaw03_StartcodeClean_L7_S (b : List Int) (i : Int) : (Bool) ⊕ (Unit) := if cleanL (b.drop i.toNat) then .inr () else .inl false
def cutroomlaw03_StartcodeClean_pre (_ : D_api_Unit) : Prop := True
def cutroomlaw03_StartcodeClean_S (_ : D_api_Unit) : Bool := true
def startcode_Unescape_L7_pre (b7 : List Int) (x8 : List Int) (x9 : Int) (zeros : Int) (x10 : Int) (out : List Int) : Prop :=
  b7 = x8 ∧ x9 = x8.length ∧ 0 ≤ x10 ∧ x10 ≤ x9 ∧ 0 ≤ zeros ∧ zeros ≤ x10 ∧ (out.length : Int) ≤ x10 ∧ (x8.length : Int) ≤ room
def startcode_Unescape_L7_mu (_ : List Int) (_ : List Int) (x9 : Int) (_ : Int) (x10 : Int) (_ : List Int) : Nat := (x9 - x10).toNat
def startcode_Unescape_L7_S (_ : List Int) (x8 : List Int) (_ : Int) (zeros : Int) (x10 : Int) (out : List Int) : (Int × List Int × List Int) ⊕ (List Int) := unL zeros (x8.drop x10.toNat) out
def startcode_Unescape_pre (b : List Int) : Prop := (b.length : Int) ≤ room
def startcode_Unescape_S (b : List Int) : Int × List Int :=
  if endsZero b then (3, []) else match unL 0 b [] with
    | .inl _ => (3, [])
    | .inr p => (0, p)
def cutroomlaw03_StartcodeEscape_pre (_ : List Int) : Prop := True
def cutroomlaw03_StartcodeEscape_S (_ : List Int) : Bool := true
def cutroomref03_Unescape_L4_pre (b1 : List Int) (zeros : Int) (i : Int) (out : List Int) : Prop := 0 ≤ i ∧ i ≤ b1.length ∧ 0 ≤ zeros ∧ zeros ≤ 2 ∧ (out.length : Int) ≤ i ∧ (b1.length : Int) ≤ room
def cutroomref03_Unescape_L4_mu (b1 : List Int) (_ : Int) (i : Int) (_ : List Int) : Nat := (b1.length - i).toNat
def cutroomref03_Unescape_L4_S (b1 : List Int) (zeros : Int) (i : Int) (out : List Int) : List Int := out ++ stripL zeros (b1.drop i.toNat)
def cutroomref03_Unescape_pre (b : List Int) : Prop := 2 * b.length ≤ room
noncomputable def cutroomref03_Unescape_S (b : List Int) : Int × List Int :=
  if (escR (stripL 0 b)).1 ≠ 0 then (3, []) else if cutroomref02_SameBytes_S b (escR (stripL 0 b)).2 then (0, stripL 0 b) else (3, [])
def cutroomlaw03_StartcodeUnescape_pre (_ : List Int) : Prop := True
def cutroomlaw03_StartcodeUnescape_S (_ : List Int) : Bool := true

/-! ### units in bytes -/
def isCode (b : List Int) (i : Int) : Bool :=
  b.getD i.toNat 0 == 0 && b.getD (i + 1).toNat 0 == 0 && b.getD (i + 2).toNat 0 == 1 && decide (0 < b.getD (i + 3).toNat 0)
/-- start codes from i on -/
def codesAt (b : List Int) (i : Int) : List Int :=
  if i + 4 ≤ b.length then (if isCode b i then i :: codesAt b (i + 4) else codesAt b (i + 1)) else []
  termination_by (b.length - i).toNat
  decreasing_by all_goals omega
/-- the first start code from i on, or the end -/
def nextC (b : List Int) (i : Int) : Int :=
  if i + 4 ≤ b.length then (if isCode b i then i else nextC b (i + 1)) else b.length
  termination_by (b.length - i).toNat
  decreasing_by all_goals omega
/-- how much is left without the zeros at the end -/
def trimL (l : List Int) : Int := l.length - tz l
/-- what stands between a start code and the next -/
def one (b : List Int) (a n : Int) : D_startcode_Found ⊕ D_startcode_Defect :=
  let to := a + 4 + trimL (cutL b (a + 4).toNat n.toNat)
  let r := startcode_Unescape_S (cutL b (a + 4).toNat to.toNat)
  if r.1 ≠ 0 then .inr (a, to, ()) else .inl ((b.getD (a + 3).toNat 0, r.2, ()), a, to, n, ())
def goS (b : List Int) : List Int → List D_startcode_Found × List D_startcode_Defect
  | a :: n :: r => match one b a n with
    | .inl f => (f :: (goS b (n :: r)).1, (goS b (n :: r)).2)
    | .inr d => ((goS b (n :: r)).1, d :: (goS b (n :: r)).2)
  | _ => ([], [])
def seqC (b : List Int) (i : Int) : List Int := codesAt b i ++ [(b.length : Int)]
def splitS (b : List Int) : List D_startcode_Found × List D_startcode_Defect :=
  ((goS b (seqC b 0)).1, (if 0 < trimL (cutL b 0 (nextC b 0).toNat) then [(0, nextC b 0, ())] else []) ++ (goS b (seqC b 0)).2)
def small (b : List Int) : Prop := (b.length : Int) ≤ 10000000
/-- positions that rise by four at least, from lo on, up to n -/
def chainF (n : Int) : Int → List Int → Prop
  | _, [] => True
  | lo, a :: r => lo ≤ a ∧ a ≤ n ∧ chainF n (a + 4) r

def startcode_codes_L3_pre (b1 : List Int) (i : Int) (l : List Int) : Prop := small b1 ∧ 0 ≤ i ∧ i ≤ b1.length ∧ (l.length : Int) ≤ i
def startcode_codes_L3_mu (b1 : List Int) (i : Int) (_ : List Int) : Nat := (b1.length - i).toNat
def startcode_codes_L3_S (b1 : List Int) (i : Int) (l : List Int) : List Int := l ++ codesAt b1 i
def startcode_codes_pre (b : List Int) : Prop := small b
def startcode_codes_S (b : List Int) : List Int := codesAt b 0
def startcode_trimmed_L2_pre (b1 : List Int) (n : Int) : Prop := 0 ≤ n ∧ n ≤ b1.length
def startcode_trimmed_L2_mu (_ : List Int) (n : Int) : Nat := n.toNat
def startcode_trimmed_L2_S (b1 : List Int) (n : Int) : Int := trimL (b1.take n.toNat)
def startcode_trimmed_pre (_ : List Int) : Prop := True
def startcode_trimmed_S (b : List Int) : Int := trimL b
def startcode_Split_L7_pre (b13 : List Int) (xOff : Nat) (xLen : Nat) (x14 : Int) (l18 : List Int) (x15 : Int) (found16 : List D_startcode_Found) (defects17 : List D_startcode_Defect) : Prop :=
  small b13 ∧ xOff = 0 ∧ (xLen : Int) + 1 = l18.length ∧ x14 = xLen ∧ 0 ≤ x15 ∧ x15 ≤ x14 ∧ (l18.length : Int) ≤ 10000001 ∧ (found16.length : Int) ≤ x15 ∧ (defects17.length : Int) ≤ x15 + 1 ∧
    ∃ lo, 0 ≤ lo ∧ chainF b13.length lo (l18.drop x15.toNat)
def startcode_Split_L7_mu (_ : List Int) (_ : Nat) (_ : Nat) (x14 : Int) (_ : List Int) (x15 : Int) (_ : List D_startcode_Found) (_ : List D_startcode_Defect) : Nat := (x14 - x15).toNat
def startcode_Split_L7_S (b13 : List Int) (_ : Nat) (_ : Nat) (_ : Int) (l18 : List Int) (x15 : Int) (found16 : List D_startcode_Found) (defects17 : List D_startcode_Defect) : List D_startcode_Found × List D_startcode_Defect :=
  (found16 ++ (goS b13 (l18.drop x15.toNat)).1, defects17 ++ (goS b13 (l18.drop x15.toNat)).2)
def startcode_Split_pre (b : List Int) : Prop := small b
def startcode_Split_S (b : List Int) : List D_startcode_Found × List D_startcode_Defect := splitS b
def cutroomref03_next_L1_pre (b1 : List Int) (i2 : Int) : Prop := small b1 ∧ 0 ≤ i2 ∧ i2 ≤ b1.length
def cutroomref03_next_L1_mu (b1 : List Int) (i2 : Int) : Nat := (b1.length - i2).toNat
def cutroomref03_next_L1_S (b1 : List Int) (i2 : Int) : (Int) ⊕ (Unit) := if nextC b1 i2 < b1.length then .inl (nextC b1 i2) else .inr ()
def cutroomref03_next_pre (b : List Int) (i : Int) : Prop := small b ∧ 0 ≤ i ∧ i ≤ b.length
def cutroomref03_next_S (b : List Int) (i : Int) : Int := nextC b i
def cutroomref03_clean_L2_pre (_ : List Int) (i : Int) : Prop := 0 ≤ i
def cutroomref03_clean_L2_mu (b1 : List Int) (i : Int) : Nat := (b1.length - i).toNat
def cutroomref03_clean_L2_S (b1 : List Int) (i : Int) : (Bool) ⊕ (Unit) := if (b1.drop i.toNat).all (· == 0) then .inr () else .inl false
def cutroomref03_clean_pre (_ : List Int) : Prop := True
def cutroomref03_clean_S (b : List Int) : Bool := b.all (· == 0)
def cutroomref03_Split_L9_pre (b16 : List Int) (at17 : Int) (_ : List D_startcode_Found) (_ : List D_startcode_Defect) (f : D_startcode_Found) : Prop :=
  small b16 ∧ 0 ≤ at17 ∧ at17 + 4 ≤ f.2.2.1 ∧ f.2.2.1 ≤ b16.length
def cutroomref03_Split_L9_mu (_ : List Int) (_ : Int) (_ : List D_startcode_Found) (_ : List D_startcode_Defect) (f : D_startcode_Found) : Nat := f.2.2.1.toNat
def cutroomref03_Split_L9_S (b16 : List Int) (at17 : Int) (_ : List D_startcode_Found) (_ : List D_startcode_Defect) (f : D_startcode_Found) : D_startcode_Found :=
  (f.1, f.2.1, at17 + 4 + trimL (cutL b16 (at17 + 4).toNat f.2.2.1.toNat), f.2.2.2)
def seqAt (b : List Int) (i : Int) : List Int := if i < b.length then i :: seqC b (i + 4) else [(b.length : Int)]
def cutroomref03_Split_L6_pre (b6 : List Int) (at7 : Int) (out8 : List D_startcode_Found) (bad9 : List D_startcode_Defect) : Prop :=
  small b6 ∧ 0 ≤ at7 ∧ (at7 = b6.length ∨ at7 + 4 ≤ b6.length) ∧ (out8.length : Int) ≤ at7 ∧ (bad9.length : Int) ≤ at7 + 1
def cutroomref03_Split_L6_mu (b6 : List Int) (at7 : Int) (_ : List D_startcode_Found) (_ : List D_startcode_Defect) : Nat := (b6.length - at7).toNat
def cutroomref03_Split_L6_S (b6 : List Int) (at7 : Int) (out8 : List D_startcode_Found) (bad9 : List D_startcode_Defect) : List D_startcode_Found × List D_startcode_Defect :=
  (out8 ++ (goS b6 (seqAt b6 at7)).1, bad9 ++ (goS b6 (seqAt b6 at7)).2)
def cutroomref03_Split_pre (b : List Int) : Prop := small b
def cutroomref03_Split_S (b : List Int) : List D_startcode_Found × List D_startcode_Defect := splitS b
def cutroomref03_SameUnit_pre (_ : D_api_Unit) (_ : D_api_Unit) : Prop := True
noncomputable def cutroomref03_SameUnit_S (a : D_api_Unit) (b : D_api_Unit) : Bool := a.1 == b.1 && cutroomref02_SameBytes_S a.2.1 b.2.1
def cutroomlaw03_same_pre (_ : D_startcode_Found) (_ : D_startcode_Found) : Prop := True
noncomputable def cutroomlaw03_same_S (a : D_startcode_Found) (b : D_startcode_Found) : Bool := a.2.1 == b.2.1 && a.2.2.1 == b.2.2.1 && a.2.2.2.1 == b.2.2.2.1 && cutroomref03_SameUnit_S a.1 b.1
def cutroomlaw03_StartcodeSplit_L8_pre (l : List D_startcode_Found) (_ : List D_startcode_Defect) (m : List D_startcode_Found) (_ : List D_startcode_Defect) (i : Int) : Prop := m = l ∧ 0 ≤ i
def cutroomlaw03_StartcodeSplit_L8_mu (l : List D_startcode_Found) (_ : List D_startcode_Defect) (_ : List D_startcode_Found) (_ : List D_startcode_Defect) (i : Int) : Nat := (l.length - i).toNat
def cutroomlaw03_StartcodeSplit_L8_S (_ : List D_startcode_Found) (_ : List D_startcode_Defect) (_ : List D_startcode_Found) (_ : List D_startcode_Defect) (_ : Int) : (Bool) ⊕ (Unit) := .inr ()
def cutroomlaw03_StartcodeSplit_L13_pre (bad19 : List D_startcode_Defect) (worse20 : List D_startcode_Defect) (i18 : Int) : Prop := worse20 = bad19 ∧ 0 ≤ i18
def cutroomlaw03_StartcodeSplit_L13_mu (bad19 : List D_startcode_Defect) (_ : List D_startcode_Defect) (i18 : Int) : Nat := (bad19.length - i18).toNat
def cutroomlaw03_StartcodeSplit_L13_S (_ : List D_startcode_Defect) (_ : List D_startcode_Defect) (_ : Int) : (Bool) ⊕ (Unit) := .inr ()
def cutroomlaw03_StartcodeSplit_pre (_ : List Int) : Prop := True
def cutroomlaw03_StartcodeSplit_S (_ : List Int) : Bool := true

noncomputable def startcode_escaped_L3_T {R : Type} (x1 : List Int) (x2 : Int) (rec : Int → Int → (List Int) → (Option R)) (ex : (List Int) → (Option R)) (zeros : Int) (x3 : Int) (out4 : List Int) : Option R :=
  if (decide (x3 < x2)) = true then
    if (0 : Int) ≤ x3 ∧ x3 < (x1.length : Int) then
      lett (x1.getD x3.toNat 0) fun x6 =>
      if (decide (zeros ≥ 2)) = true then
        if (decide (x6 < 4)) = true then
          if 0 < 1 ∧ (out4.length + [3].length) * 1 ≤ room then
            if 0 < 1 ∧ ((out4 ++ [3]).length + [x6].length) * 1 ≤ room then
              lett ((out4 ++ [3]) ++ [x6]) fun out10 =>
              if (x6 != 0) = true then
                rec 0 (wi64 (x3 + 1)) out10
              else
                rec (wi64 (0 + 1)) (wi64 (x3 + 1)) out10
            else
              none
          else
            none
        else
          if 0 < 1 ∧ (out4.length + [x6].length) * 1 ≤ room then
            if (x6 != 0) = true then
              rec 0 (wi64 (x3 + 1)) (out4 ++ [x6])
            else
              rec (wi64 (zeros + 1)) (wi64 (x3 + 1)) (out4 ++ [x6])
          else
            none
      else
        if 0 < 1 ∧ (out4.length + [x6].length) * 1 ≤ room then
          if (x6 != 0) = true then
            rec 0 (wi64 (x3 + 1)) (out4 ++ [x6])
          else
            rec (wi64 (zeros + 1)) (wi64 (x3 + 1)) (out4 ++ [x6])
        else
          none
    else
      none
  else
    ex out4
def startcode_escaped_L3_Obl (pre : (List Int) → Int → Int → Int → (List Int) → Prop) (mu : (List Int) → Int → Int → Int → (List Int) → Nat) (S : (List Int) → Int → Int → Int → (List Int) → ((List Int))) : Prop :=
  ∀ (x1 : List Int) (x2 : Int) (zeros : Int) (x3 : Int) (out4 : List Int) (_ : okT (.int .i64) zeros) (_ : okT (.sl (.int .u8)) x1) (_ : okT (.int .i64) x2) (_ : okT (.int .i64) x3) (_ : okT (.sl (.int .u8)) out4),
  pre x1 x2 zeros x3 out4 →
  ∀ {R : Type} (rec : Int → Int → (List Int) → (Option R)) (ex : (List Int) → (Option R)) (Good : Option R → Prop),
  (∀ (zeros' : Int) (x3' : Int) (out4' : List Int), pre x1 x2 zeros' x3' out4' → mu x1 x2 zeros' x3' out4' < mu x1 x2 zeros x3 out4 → S x1 x2 zeros' x3' out4' = S x1 x2 zeros x3 out4 → Good (rec zeros' x3' out4')) →
  (∀ y0, S x1 x2 zeros x3 out4 = y0 → Good (ex y0)) →
  Good (startcode_escaped_L3_T x1 x2 rec ex zeros x3 out4)

noncomputable def startcode_escaped_F {R : Type} (k : (List Int) → (Option R)) (payload : List Int) (out : List Int) : Option R :=
  lett ((payload.length : Int)) fun x =>
  need (startcode_escaped_L3_pre payload x 0 0 out) <|
  lett (startcode_escaped_L3_S payload x 0 0 out) fun out25 =>
  k out25
def startcode_escaped_Obl (pre : (List Int) → (List Int) → Prop) (S : (List Int) → (List Int) → ((List Int))) : Prop :=
  ∀ (payload : List Int) (out : List Int) (_ : okT (.sl (.int .u8)) payload) (_ : okT (.sl (.int .u8)) out), pre payload out →
  ∀ {R : Type} (k : (List Int) → (Option R)) (Good : Option R → Prop), Good (k ((S payload out))) → Good (startcode_escaped_F k payload out)
noncomputable def startcode_Format_F {R : Type} (k : Int → (List Int) → (Option R)) (u : D_api_Unit) : Option R :=
  if (decide (u.1 < 1)) = true then
    k 1 []
  else
    if (decide (u.1 > 255)) = true then
      k 1 []
    else
      lett ((u.2.1.length : Int)) fun x2 =>
      if (decide (x2 > 0)) = true then
        if (0 : Int) ≤ (wi64 (x2 - 1)) ∧ (wi64 (x2 - 1)) < (u.2.1.length : Int) then
          if ((u.2.1.getD (wi64 (x2 - 1)).toNat 0) == 0) = true then
            k 3 []
          else
            need (startcode_escaped_pre u.2.1 [0, 0, 1, (wu8 u.1)]) <|
            lett (startcode_escaped_S u.2.1 [0, 0, 1, (wu8 u.1)]) fun out =>
            k 0 out
        else
          none
      else
        need (startcode_escaped_pre u.2.1 [0, 0, 1, (wu8 u.1)]) <|
        lett (startcode_escaped_S u.2.1 [0, 0, 1, (wu8 u.1)]) fun out9 =>
        k 0 out9
def startcode_Format_Obl (pre : D_api_Unit → Prop) (S : D_api_Unit → ((Int × List Int))) : Prop :=
  ∀ (u : D_api_Unit) (_ : okT T_api_Unit u), pre u →
  ∀ {R : Type} (k : Int → (List Int) → (Option R)) (Good : Option R → Prop), Good (k ((S u).1) ((S u).2)) → Good (startcode_Format_F k u)
noncomputable def cutroomref03_Escape_L5_T {R : Type} (p7 : List Int) (rec : Int → (List Int) → (Option R)) (ex : (List Int) → (Option R)) (i : Int) (out : List Int) : Option R :=
  if (decide (i < (p7.length : Int))) = true then
    lett ((out.length : Int)) fun x10 =>
    if (0 : Int) ≤ i ∧ i < (p7.length : Int) then
      if (decide ((p7.getD i.toNat 0) < 4)) = true then
        if (decide (x10 ≥ 2)) = true then
          if (0 : Int) ≤ (wi64 (x10 - 1)) ∧ (wi64 (x10 - 1)) < (out.length : Int) then
            if ((out.getD (wi64 (x10 - 1)).toNat 0) == 0) = true then
              if (0 : Int) ≤ (wi64 (x10 - 2)) ∧ (wi64 (x10 - 2)) < (out.length : Int) then
                if ((out.getD (wi64 (x10 - 2)).toNat 0) == 0) = true then
                  if 0 < 1 ∧ (out.length + [3].length) * 1 ≤ room then
                    if (0 : Int) ≤ i ∧ i < (p7.length : Int) then
                      lett (p7.getD i.toNat 0) fun x21 =>
                      if 0 < 1 ∧ ((out ++ [3]).length + [x21].length) * 1 ≤ room then
                        rec (wi64 (i + 1)) ((out ++ [3]) ++ [x21])
                      else
                        none
                    else
                      none
                  else
                    none
                else
                  if (0 : Int) ≤ i ∧ i < (p7.length : Int) then
                    lett (p7.getD i.toNat 0) fun x23 =>
                    if 0 < 1 ∧ (out.length + [x23].length) * 1 ≤ room then
                      rec (wi64 (i + 1)) (out ++ [x23])
                    else
                      none
                  else
                    none
              else
                none
            else
              if (0 : Int) ≤ i ∧ i < (p7.length : Int) then
                lett (p7.getD i.toNat 0) fun x25 =>
                if 0 < 1 ∧ (out.length + [x25].length) * 1 ≤ room then
                  rec (wi64 (i + 1)) (out ++ [x25])
                else
                  none
              else
                none
          else
            none
        else
          if (0 : Int) ≤ i ∧ i < (p7.length : Int) then
            lett (p7.getD i.toNat 0) fun x27 =>
            if 0 < 1 ∧ (out.length + [x27].length) * 1 ≤ room then
              rec (wi64 (i + 1)) (out ++ [x27])
            else
              none
          else
            none
      else
        if (0 : Int) ≤ i ∧ i < (p7.length : Int) then
          lett (p7.getD i.toNat 0) fun x29 =>
          if 0 < 1 ∧ (out.length + [x29].length) * 1 ≤ room then
            rec (wi64 (i + 1)) (out ++ [x29])
          else
            none
        else
          none
    else
      none
  else
    ex out
def cutroomref03_Escape_L5_Obl (pre : (List Int) → Int → (List Int) → Prop) (mu : (List Int) → Int → (List Int) → Nat) (S : (List Int) → Int → (List Int) → ((List Int))) : Prop :=
  ∀ (p7 : List Int) (i : Int) (out : List Int) (_ : okT (.sl (.int .u8)) p7) (_ : okT (.int .i64) i) (_ : okT (.sl (.int .u8)) out),
  pre p7 i out →
  ∀ {R : Type} (rec : Int → (List Int) → (Option R)) (ex : (List Int) → (Option R)) (Good : Option R → Prop),
  (∀ (i' : Int) (out' : List Int), pre p7 i' out' → mu p7 i' out' < mu p7 i out → S p7 i' out' = S p7 i out → Good (rec i' out')) →
  (∀ y0, S p7 i out = y0 → Good (ex y0)) →
  Good (cutroomref03_Escape_L5_T p7 rec ex i out)

noncomputable def cutroomref03_Escape_J3_T {R : Type} (ex : Int → (List Int) → (Option R)) (p6 : List Int) : Option R :=
  need (cutroomref03_Escape_L5_pre p6 0 []) <|
  lett (cutroomref03_Escape_L5_S p6 0 []) fun out36 =>
  ex 0 out36

noncomputable def cutroomref03_Escape_F {R : Type} (k : Int → (List Int) → (Option R)) (p : List Int) : Option R :=
  if (decide ((p.length : Int) > 0)) = true then
    lett (wi64 ((p.length : Int) - 1)) fun x3 =>
    if (0 : Int) ≤ x3 ∧ x3 < (p.length : Int) then
      if ((p.getD x3.toNat 0) == 0) = true then
        k 3 []
      else
        cutroomref03_Escape_J3_T
          (fun x37 o =>
            k x37 o
          )
          p
    else
      none
  else
    cutroomref03_Escape_J3_T
      (fun x38 o39 =>
        k x38 o39
      )
      p
def cutroomref03_Escape_Obl (pre : (List Int) → Prop) (S : (List Int) → ((Int × List Int))) : Prop :=
  ∀ (p : List Int) (_ : okT (.sl (.int .u8)) p), pre p →
  ∀ {R : Type} (k : Int → (List Int) → (Option R)) (Good : Option R → Prop), Good (k ((S p).1) ((S p).2)) → Good (cutroomref03_Escape_F k p)
noncomputable def cutroomref03_Format_F {R : Type} (k : Int → (List Int) → (Option R)) (u : D_api_Unit) : Option R :=
  if (decide (u.1 < 1)) = true then
    k 1 []
  else
    if (decide (u.1 > 255)) = true then
      k 1 []
    else
      need (cutroomref03_Escape_pre u.2.1) <|
      lett (cutroomref03_Escape_S u.2.1) fun res1 =>
      if (res1.1 != 0) = true then
        k res1.1 []
      else
        if 0 < 1 ∧ ([0, 0, 1, (wu8 u.1)].length + res1.2.length) * 1 ≤ room then
          k 0 ([0, 0, 1, (wu8 u.1)] ++ res1.2)
        else
          none
def cutroomref03_Format_Obl (pre : D_api_Unit → Prop) (S : D_api_Unit → ((Int × List Int))) : Prop :=
  ∀ (u : D_api_Unit) (_ : okT T_api_Unit u), pre u →
  ∀ {R : Type} (k : Int → (List Int) → (Option R)) (Good : Option R → Prop), Good (k ((S u).1) ((S u).2)) → Good (cutroomref03_Format_F k u)
noncomputable def startcode_Escape_F {R : Type} (k : Int → (List Int) → (Option R)) (payload : List Int) : Option R :=
  lett ((payload.length : Int)) fun x =>
  if (decide (x > 0)) = true then
    if (0 : Int) ≤ (wi64 (x - 1)) ∧ (wi64 (x - 1)) < (payload.length : Int) then
      if ((payload.getD (wi64 (x - 1)).toNat 0) == 0) = true then
        k 3 []
      else
        need (startcode_escaped_pre payload []) <|
        lett (startcode_escaped_S payload []) fun out =>
        k 0 out
    else
      none
  else
    need (startcode_escaped_pre payload []) <|
    lett (startcode_escaped_S payload []) fun out5 =>
    k 0 out5
def startcode_Escape_Obl (pre : (List Int) → Prop) (S : (List Int) → ((Int × List Int))) : Prop :=
  ∀ (payload : List Int) (_ : okT (.sl (.int .u8)) payload), pre payload →
  ∀ {R : Type} (k : Int → (List Int) → (Option R)) (Good : Option R → Prop), Good (k ((S payload).1) ((S payload).2)) → Good (startcode_Escape_F k payload)
noncomputable def cutroomref02_SameBytes_F {R : Type} (k : Bool → (Option R)) (a : List Int) (b : List Int) : Option R :=
  k ((strL a).toList == (strL b).toList)
def cutroomref02_SameBytes_Obl (pre : (List Int) → (List Int) → Prop) (S : (List Int) → (List Int) → (Bool)) : Prop :=
  ∀ (a : List Int) (b : List Int) (_ : okT (.sl (.int .u8)) a) (_ : okT (.sl (.int .u8)) b), pre a b →
  ∀ {R : Type} (k : Bool → (Option R)) (Good : Option R → Prop), Good (k ((S a b))) → Good (cutroomref02_SameBytes_F k a b)
noncomputable def cutroomlaw03_awake_F {R : Type} (k : Bool → (Option R))  : Option R :=
  need (startcode_Escape_pre [0, 0, 1]) <|
  lett (startcode_Escape_S [0, 0, 1]) fun res1 =>
  if (res1.1 == 0) = true then
    need (cutroomref02_SameBytes_pre res1.2 [0, 0, 3, 1]) <|
    lett (cutroomref02_SameBytes_S res1.2 [0, 0, 3, 1]) fun r1 =>
    k r1
  else
    k false
def cutroomlaw03_awake_Obl (pre : Prop) (S : (Bool)) : Prop :=
   pre  →
  ∀ {R : Type} (k : Bool → (Option R)) (Good : Option R → Prop), Good (k (S)) → Good (cutroomlaw03_awake_F k )
noncomputable def cutroomlaw03_StartcodeFormat_F {R : Type} (k : Bool → (Option R)) (u : D_api_Unit) : Option R :=
  if (decide ((u.2.1.length : Int) > 2000)) = true then
    k true
  else
    need (startcode_Format_pre u) <|
    lett (startcode_Format_S u) fun res1 =>
    need (cutroomref03_Format_pre u) <|
    lett (cutroomref03_Format_S u) fun res2 =>
    need (cutroomlaw03_awake_pre) <|
    lett (cutroomlaw03_awake_S) fun r4 =>
    if r4 = true then
      if (res1.1 == res2.1) = true then
        need (cutroomref02_SameBytes_pre res1.2 res2.2) <|
        lett (cutroomref02_SameBytes_S res1.2 res2.2) fun r6 =>
        k r6
      else
        k false
    else
      k false
def cutroomlaw03_StartcodeFormat_Obl (pre : D_api_Unit → Prop) (S : D_api_Unit → (Bool)) : Prop :=
  ∀ (u : D_api_Unit) (_ : okT T_api_Unit u), pre u →
  ∀ {R : Type} (k : Bool → (Option R)) (Good : Option R → Prop), Good (k ((S u))) → Good (cutroomlaw03_StartcodeFormat_F k u)
noncomputable def cutroomlaw03_formed_L4_T {R : Type} (l2 : List D_api_Unit) (rec : Int → (Option R)) (ex0 : Bool → (Option R)) (ex1 : Unit → (Option R)) (i : Int) : Option R :=
  if (decide (i < (l2.length : Int))) = true then
    if (0 : Int) ≤ i ∧ i < (l2.length : Int) then
      if (decide (((l2.getD i.toNat Z_api_Unit).2.1.length : Int) > 100)) = true then
        ex0 false
      else
        if (0 : Int) ≤ i ∧ i < (l2.length : Int) then
          lett (l2.getD i.toNat Z_api_Unit) fun x8 =>
          need (cutroomref03_Format_pre x8) <|
          lett (cutroomref03_Format_S x8) fun res1 =>
          if (res1.1 != 0) = true then
            ex0 false
          else
            rec (wi64 (i + 1))
        else
          none
    else
      none
  else
    ex1 ()
def cutroomlaw03_formed_L4_Obl (pre : (List D_api_Unit) → Int → Prop) (mu : (List D_api_Unit) → Int → Nat) (S : (List D_api_Unit) → Int → (((Bool) ⊕ (Unit)))) : Prop :=
  ∀ (l2 : List D_api_Unit) (i : Int) (_ : okT (.sl T_api_Unit) l2) (_ : okT (.int .i64) i),
  pre l2 i →
  ∀ {R : Type} (rec : Int → (Option R)) (ex0 : Bool → (Option R)) (ex1 : Unit → (Option R)) (Good : Option R → Prop),
  (∀ (i' : Int), pre l2 i' → mu l2 i' < mu l2 i → S l2 i' = S l2 i → Good (rec i')) →
  (∀ y0, S l2 i = (.inl y0) → Good (ex0 y0)) →
  (S l2 i = (.inr ()) → Good (ex1 ())) →
  Good (cutroomlaw03_formed_L4_T l2 rec ex0 ex1 i)

noncomputable def cutroomlaw03_formed_F {R : Type} (k : Bool → (Option R)) (l : List D_api_Unit) : Option R :=
  if (decide ((l.length : Int) > 20)) = true then
    k false
  else
    need (cutroomlaw03_formed_L4_pre l 0) <|
    caseS (cutroomlaw03_formed_L4_S l 0)
      (fun x11 =>
        k x11
      )
      (fun _ =>
        k true
      )
def cutroomlaw03_formed_Obl (pre : (List D_api_Unit) → Prop) (S : (List D_api_Unit) → (Bool)) : Prop :=
  ∀ (l : List D_api_Unit) (_ : okT (.sl T_api_Unit) l), pre l →
  ∀ {R : Type} (k : Bool → (Option R)) (Good : Option R → Prop), Good (k ((S l))) → Good (cutroomlaw03_formed_F k l)
noncomputable def cutroomlaw03_StartcodeClean_L7_T {R : Type} (b : List Int) (rec : Int → (Option R)) (ex0 : Bool → (Option R)) (ex1 : Unit → (Option R)) (i : Int) : Option R :=
  if (decide ((wi64 (i + 2)) < (b.length : Int))) = true then
    if (0 : Int) ≤ i ∧ i < (b.length : Int) then
      if ((b.getD i.toNat 0) == 0) = true then
        if (0 : Int) ≤ (wi64 (i + 1)) ∧ (wi64 (i + 1)) < (b.length : Int) then
          if ((b.getD (wi64 (i + 1)).toNat 0) == 0) = true then
            if (0 : Int) ≤ (wi64 (i + 2)) ∧ (wi64 (i + 2)) < (b.length : Int) then
              if (decide ((b.getD (wi64 (i + 2)).toNat 0) < 3)) = true then
                ex0 false
              else
                rec (wi64 (i + 1))
            else
              none
          else
            rec (wi64 (i + 1))
        else
          none
      else
        rec (wi64 (i + 1))
    else
      none
  else
    ex1 ()
def cutroomlaw03_StartcodeClean_L7_Obl (pre : (List Int) → Int → Prop) (mu : (List Int) → Int → Nat) (S : (List Int) → Int → (((Bool) ⊕ (Unit)))) : Prop :=
  ∀ (b : List Int) (i : Int) (_ : okT (.int .i64) i) (_ : okT (.sl (.int .u8)) b),
  pre b i →
  ∀ {R : Type} (rec : Int → (Option R)) (ex0 : Bool → (Option R)) (ex1 : Unit → (Option R)) (Good : Option R → Prop),
  (∀ (i' : Int), pre b i' → mu b i' < mu b i → S b i' = S b i → Good (rec i')) →
  (∀ y0, S b i = (.inl y0) → Good (ex0 y0)) →
  (S b i = (.inr ()) → Good (ex1 ())) →
  Good (cutroomlaw03_StartcodeClean_L7_T b rec ex0 ex1 i)

noncomputable def cutroomlaw03_StartcodeClean_F {R : Type} (k : Bool → (Option R)) (u : D_api_Unit) : Option R :=
  need (cutroomlaw03_formed_pre [u]) <|
  lett (cutroomlaw03_formed_S [u]) fun r_ =>
  if (!r_) = true then
    need (cutroomlaw03_awake_pre) <|
    lett (cutroomlaw03_awake_S) fun r1 =>
    k r1
  else
    need (startcode_Format_pre u) <|
    lett (startcode_Format_S u) fun res1 =>
    if (res1.1 != 0) = true then
      k false
    else
      if (decide ((res1.2.length : Int) < 4)) = true then
        k false
      else
        lett (wi64 ((res1.2.length : Int) - 1)) fun x7 =>
        if (0 : Int) ≤ x7 ∧ x7 < (res1.2.length : Int) then
          if ((res1.2.getD x7.toNat 0) == 0) = true then
            k false
          else
            need (cutroomlaw03_StartcodeClean_L7_pre res1.2 1) <|
            caseS (cutroomlaw03_StartcodeClean_L7_S res1.2 1)
              (fun x24 =>
                k x24
              )
              (fun _ =>
                need (cutroomlaw03_awake_pre) <|
                lett (cutroomlaw03_awake_S) fun r25 =>
                k r25
              )
        else
          none
def cutroomlaw03_StartcodeClean_Obl (pre : D_api_Unit → Prop) (S : D_api_Unit → (Bool)) : Prop :=
  ∀ (u : D_api_Unit) (_ : okT T_api_Unit u), pre u →
  ∀ {R : Type} (k : Bool → (Option R)) (Good : Option R → Prop), Good (k ((S u))) → Good (cutroomlaw03_StartcodeClean_F k u)
noncomputable def startcode_Unescape_L7_T {R : Type} (b7 : List Int) (x8 : List Int) (x9 : Int) (rec : Int → Int → (List Int) → (Option R)) (ex0 : Int → (List Int) → (List Int) → (Option R)) (ex1 : (List Int) → (Option R)) (zeros : Int) (x10 : Int) (out : List Int) : Option R :=
  if (decide (x10 < x9)) = true then
    if (0 : Int) ≤ x10 ∧ x10 < (x8.length : Int) then
      lett (x8.getD x10.toNat 0) fun x12 =>
      if (decide (zeros ≥ 2)) = true then
        if (decide (x12 < 4)) = true then
          if (x12 != 3) = true then
            ex0 3 [] out
          else
            if (decide ((wi64 (x10 + 1)) ≥ (b7.length : Int))) = true then
              ex0 3 [] out
            else
              if (0 : Int) ≤ (wi64 (x10 + 1)) ∧ (wi64 (x10 + 1)) < (b7.length : Int) then
                if (decide ((b7.getD (wi64 (x10 + 1)).toNat 0) ≥ 4)) = true then
                  ex0 3 [] out
                else
                  rec 0 (wi64 (x10 + 1)) out
              else
                none
        else
          if 0 < 1 ∧ (out.length + [x12].length) * 1 ≤ room then
            if (x12 != 0) = true then
              rec 0 (wi64 (x10 + 1)) (out ++ [x12])
            else
              rec (wi64 (zeros + 1)) (wi64 (x10 + 1)) (out ++ [x12])
          else
            none
      else
        if 0 < 1 ∧ (out.length + [x12].length) * 1 ≤ room then
          if (x12 != 0) = true then
            rec 0 (wi64 (x10 + 1)) (out ++ [x12])
          else
            rec (wi64 (zeros + 1)) (wi64 (x10 + 1)) (out ++ [x12])
        else
          none
    else
      none
  else
    ex1 out
def startcode_Unescape_L7_Obl (pre : (List Int) → (List Int) → Int → Int → Int → (List Int) → Prop) (mu : (List Int) → (List Int) → Int → Int → Int → (List Int) → Nat) (S : (List Int) → (List Int) → Int → Int → Int → (List Int) → (((Int × List Int × List Int) ⊕ (List Int)))) : Prop :=
  ∀ (b7 : List Int) (x8 : List Int) (x9 : Int) (zeros : Int) (x10 : Int) (out : List Int) (_ : okT (.sl (.int .u8)) b7) (_ : okT (.int .i64) zeros) (_ : okT (.sl (.int .u8)) x8) (_ : okT (.int .i64) x9) (_ : okT (.int .i64) x10) (_ : okT (.sl (.int .u8)) out),
  pre b7 x8 x9 zeros x10 out →
  ∀ {R : Type} (rec : Int → Int → (List Int) → (Option R)) (ex0 : Int → (List Int) → (List Int) → (Option R)) (ex1 : (List Int) → (Option R)) (Good : Option R → Prop),
  (∀ (zeros' : Int) (x10' : Int) (out' : List Int), pre b7 x8 x9 zeros' x10' out' → mu b7 x8 x9 zeros' x10' out' < mu b7 x8 x9 zeros x10 out → S b7 x8 x9 zeros' x10' out' = S b7 x8 x9 zeros x10 out → Good (rec zeros' x10' out')) →
  (∀ y0 y1 y2, S b7 x8 x9 zeros x10 out = (.inl (y0, y1, y2)) → Good (ex0 y0 y1 y2)) →
  (∀ y0, S b7 x8 x9 zeros x10 out = (.inr y0) → Good (ex1 y0)) →
  Good (startcode_Unescape_L7_T b7 x8 x9 rec ex0 ex1 zeros x10 out)

noncomputable def startcode_Unescape_J4_T {R : Type} (ex0 : Int → (List Int) → (List Int) → (Option R)) (ex1 : Int → (List Int) → (Option R)) (b5 : List Int) : Option R :=
  lett ((b5.length : Int)) fun x6 =>
  need (startcode_Unescape_L7_pre b5 b5 x6 0 0 []) <|
  caseS (startcode_Unescape_L7_S b5 b5 x6 0 0 [])
    (fun res1 =>
      ex0 res1.1 res1.2.1 res1.2.2
    )
    (fun out35 =>
      ex1 0 out35
    )

noncomputable def startcode_Unescape_F {R : Type} (k : Int → (List Int) → (Option R)) (b : List Int) : Option R :=
  lett ((b.length : Int)) fun x =>
  if (decide (x > 0)) = true then
    if (0 : Int) ≤ (wi64 (x - 1)) ∧ (wi64 (x - 1)) < (b.length : Int) then
      if ((b.getD (wi64 (x - 1)).toNat 0) == 0) = true then
        k 3 []
      else
        startcode_Unescape_J4_T
          (fun x36 o37 o38 =>
            k x36 o37
          )
          (fun x39 o40 =>
            k x39 o40
          )
          b
    else
      none
  else
    startcode_Unescape_J4_T
      (fun x41 o42 o43 =>
        k x41 o42
      )
      (fun x44 o45 =>
        k x44 o45
      )
      b
def startcode_Unescape_Obl (pre : (List Int) → Prop) (S : (List Int) → ((Int × List Int))) : Prop :=
  ∀ (b : List Int) (_ : okT (.sl (.int .u8)) b), pre b →
  ∀ {R : Type} (k : Int → (List Int) → (Option R)) (Good : Option R → Prop), Good (k ((S b).1) ((S b).2)) → Good (startcode_Unescape_F k b)
noncomputable def cutroomlaw03_StartcodeEscape_F {R : Type} (k : Bool → (Option R)) (p : List Int) : Option R :=
  if (decide ((p.length : Int) > 2000)) = true then
    k true
  else
    need (startcode_Escape_pre p) <|
    lett (startcode_Escape_S p) fun res1 =>
    need (cutroomref03_Escape_pre p) <|
    lett (cutroomref03_Escape_S p) fun res2 =>
    if (res1.1 != res2.1) = true then
      k false
    else
      need (cutroomref02_SameBytes_pre res1.2 res2.2) <|
      lett (cutroomref02_SameBytes_S res1.2 res2.2) fun r5 =>
      if (!r5) = true then
        k false
      else
        if (res1.1 != 0) = true then
          need (cutroomlaw03_awake_pre) <|
          lett (cutroomlaw03_awake_S) fun r8 =>
          k r8
        else
          need (startcode_Unescape_pre res1.2) <|
          lett (startcode_Unescape_S res1.2) fun res3 =>
          need (cutroomlaw03_awake_pre) <|
          lett (cutroomlaw03_awake_S) fun r11 =>
          if r11 = true then
            if (res3.1 == 0) = true then
              need (cutroomref02_SameBytes_pre p res3.2) <|
              lett (cutroomref02_SameBytes_S p res3.2) fun r13 =>
              k r13
            else
              k false
          else
            k false
def cutroomlaw03_StartcodeEscape_Obl (pre : (List Int) → Prop) (S : (List Int) → (Bool)) : Prop :=
  ∀ (p : List Int) (_ : okT (.sl (.int .u8)) p), pre p →
  ∀ {R : Type} (k : Bool → (Option R)) (Good : Option R → Prop), Good (k ((S p))) → Good (cutroomlaw03_StartcodeEscape_F k p)
noncomputable def cutroomref03_Unescape_L4_T {R : Type} (b1 : List Int) (rec : Int → Int → (List Int) → (Option R)) (ex : (List Int) → (Option R)) (zeros : Int) (i : Int) (out : List Int) : Option R :=
  if (decide (i < (b1.length : Int))) = true then
    if (zeros == 2) = true then
      if (0 : Int) ≤ i ∧ i < (b1.length : Int) then
        if ((b1.getD i.toNat 0) == 3) = true then
          rec 0 (wi64 (i + 1)) out
        else
          if (0 : Int) ≤ i ∧ i < (b1.length : Int) then
            lett (b1.getD i.toNat 0) fun x6 =>
            if 0 < 1 ∧ (out.length + [x6].length) * 1 ≤ room then
              if (0 : Int) ≤ i ∧ i < (b1.length : Int) then
                if ((b1.getD i.toNat 0) == 0) = true then
                  lett (wi64 (zeros + 1)) fun x10 =>
                  rec (if 2 < x10 then 2 else x10) (wi64 (i + 1)) (out ++ [x6])
                else
                  rec 0 (wi64 (i + 1)) (out ++ [x6])
              else
                none
            else
              none
          else
            none
      else
        none
    else
      if (0 : Int) ≤ i ∧ i < (b1.length : Int) then
        lett (b1.getD i.toNat 0) fun x12 =>
        if 0 < 1 ∧ (out.length + [x12].length) * 1 ≤ room then
          if (0 : Int) ≤ i ∧ i < (b1.length : Int) then
            if ((b1.getD i.toNat 0) == 0) = true then
              lett (wi64 (zeros + 1)) fun x16 =>
              rec (if 2 < x16 then 2 else x16) (wi64 (i + 1)) (out ++ [x12])
            else
              rec 0 (wi64 (i + 1)) (out ++ [x12])
          else
            none
        else
          none
      else
        none
  else
    ex out
def cutroomref03_Unescape_L4_Obl (pre : (List Int) → Int → Int → (List Int) → Prop) (mu : (List Int) → Int → Int → (List Int) → Nat) (S : (List Int) → Int → Int → (List Int) → ((List Int))) : Prop :=
  ∀ (b1 : List Int) (zeros : Int) (i : Int) (out : List Int) (_ : okT (.sl (.int .u8)) b1) (_ : okT (.int .i64) zeros) (_ : okT (.int .i64) i) (_ : okT (.sl (.int .u8)) out),
  pre b1 zeros i out →
  ∀ {R : Type} (rec : Int → Int → (List Int) → (Option R)) (ex : (List Int) → (Option R)) (Good : Option R → Prop),
  (∀ (zeros' : Int) (i' : Int) (out' : List Int), pre b1 zeros' i' out' → mu b1 zeros' i' out' < mu b1 zeros i out → S b1 zeros' i' out' = S b1 zeros i out → Good (rec zeros' i' out')) →
  (∀ y0, S b1 zeros i out = y0 → Good (ex y0)) →
  Good (cutroomref03_Unescape_L4_T b1 rec ex zeros i out)

noncomputable def cutroomref03_Unescape_F {R : Type} (k : Int → (List Int) → (Option R)) (b : List Int) : Option R :=
  need (cutroomref03_Unescape_L4_pre b 0 0 []) <|
  lett (cutroomref03_Unescape_L4_S b 0 0 []) fun out23 =>
  need (cutroomref03_Escape_pre out23) <|
  lett (cutroomref03_Escape_S out23) fun res1 =>
  if (res1.1 != 0) = true then
    k 3 []
  else
    need (cutroomref02_SameBytes_pre b res1.2) <|
    lett (cutroomref02_SameBytes_S b res1.2) fun r25 =>
    if (!r25) = true then
      k 3 []
    else
      k 0 out23
def cutroomref03_Unescape_Obl (pre : (List Int) → Prop) (S : (List Int) → ((Int × List Int))) : Prop :=
  ∀ (b : List Int) (_ : okT (.sl (.int .u8)) b), pre b →
  ∀ {R : Type} (k : Int → (List Int) → (Option R)) (Good : Option R → Prop), Good (k ((S b).1) ((S b).2)) → Good (cutroomref03_Unescape_F k b)
noncomputable def cutroomlaw03_StartcodeUnescape_F {R : Type} (k : Bool → (Option R)) (b : List Int) : Option R :=
  if (decide ((b.length : Int) > 2000)) = true then
    k true
  else
    need (startcode_Unescape_pre b) <|
    lett (startcode_Unescape_S b) fun res1 =>
    need (cutroomref03_Unescape_pre b) <|
    lett (cutroomref03_Unescape_S b) fun res2 =>
    if (res1.1 != res2.1) = true then
      k false
    else
      need (cutroomref02_SameBytes_pre res1.2 res2.2) <|
      lett (cutroomref02_SameBytes_S res1.2 res2.2) fun r5 =>
      if (!r5) = true then
        k false
      else
        if (res1.1 != 0) = true then
          need (cutroomlaw03_awake_pre) <|
          lett (cutroomlaw03_awake_S) fun r8 =>
          k r8
        else
          need (startcode_Escape_pre res1.2) <|
          lett (startcode_Escape_S res1.2) fun res3 =>
          need (cutroomlaw03_awake_pre) <|
          lett (cutroomlaw03_awake_S) fun r11 =>
          if r11 = true then
            if (res3.1 == 0) = true then
              need (cutroomref02_SameBytes_pre b res3.2) <|
              lett (cutroomref02_SameBytes_S b res3.2) fun r13 =>
              k r13
            else
              k false
          else
            k false
def cutroomlaw03_StartcodeUnescape_Obl (pre : (List Int) → Prop) (S : (List Int) → (Bool)) : Prop :=
  ∀ (b : List Int) (_ : okT (.sl (.int .u8)) b), pre b →
  ∀ {R : Type} (k : Bool → (Option R)) (Good : Option R → Prop), Good (k ((S b))) → Good (cutroomlaw03_StartcodeUnescape_F k b)
noncomputable def startcode_codes_L3_T {R : Type} (b1 : List Int) (rec : Int → (List Int) → (Option R)) (ex : (List Int) → (Option R)) (i : Int) (l : List Int) : Option R :=
  if (decide ((wi64 (i + 4)) ≤ (b1.length : Int))) = true then
    if (0 : Int) ≤ i ∧ i < (b1.length : Int) then
      if ((b1.getD i.toNat 0) == 0) = true then
        if (0 : Int) ≤ (wi64 (i + 1)) ∧ (wi64 (i + 1)) < (b1.length : Int) then
          if ((b1.getD (wi64 (i + 1)).toNat 0) == 0) = true then
            if (0 : Int) ≤ (wi64 (i + 2)) ∧ (wi64 (i + 2)) < (b1.length : Int) then
              if ((b1.getD (wi64 (i + 2)).toNat 0) == 1) = true then
                if (0 : Int) ≤ (wi64 (i + 3)) ∧ (wi64 (i + 3)) < (b1.length : Int) then
                  if (decide ((b1.getD (wi64 (i + 3)).toNat 0) > 0)) = true then
                    if 0 < 8 ∧ (l.length + [i].length) * 8 ≤ room then
                      rec (wi64 (i + 4)) (l ++ [i])
                    else
                      none
                  else
                    rec (wi64 (i + 1)) l
                else
                  none
              else
                rec (wi64 (i + 1)) l
            else
              none
          else
            rec (wi64 (i + 1)) l
        else
          none
      else
        rec (wi64 (i + 1)) l
    else
      none
  else
    ex l
def startcode_codes_L3_Obl (pre : (List Int) → Int → (List Int) → Prop) (mu : (List Int) → Int → (List Int) → Nat) (S : (List Int) → Int → (List Int) → ((List Int))) : Prop :=
  ∀ (b1 : List Int) (i : Int) (l : List Int) (_ : okT (.sl (.int .u8)) b1) (_ : okT (.int .i64) i) (_ : okT (.sl (.int .i64)) l),
  pre b1 i l →
  ∀ {R : Type} (rec : Int → (List Int) → (Option R)) (ex : (List Int) → (Option R)) (Good : Option R → Prop),
  (∀ (i' : Int) (l' : List Int), pre b1 i' l' → mu b1 i' l' < mu b1 i l → S b1 i' l' = S b1 i l → Good (rec i' l')) →
  (∀ y0, S b1 i l = y0 → Good (ex y0)) →
  Good (startcode_codes_L3_T b1 rec ex i l)

noncomputable def startcode_codes_F {R : Type} (k : (List Int) → (Option R)) (b : List Int) : Option R :=
  need (startcode_codes_L3_pre b 0 []) <|
  lett (startcode_codes_L3_S b 0 []) fun l21 =>
  k l21
def startcode_codes_Obl (pre : (List Int) → Prop) (S : (List Int) → ((List Int))) : Prop :=
  ∀ (b : List Int) (_ : okT (.sl (.int .u8)) b), pre b →
  ∀ {R : Type} (k : (List Int) → (Option R)) (Good : Option R → Prop), Good (k ((S b))) → Good (startcode_codes_F k b)
noncomputable def startcode_trimmed_L2_T {R : Type} (b1 : List Int) (rec : Int → (Option R)) (ex : Int → (Option R)) (n : Int) : Option R :=
  if (decide (n > 0)) = true then
    if (0 : Int) ≤ (wi64 (n - 1)) ∧ (wi64 (n - 1)) < (b1.length : Int) then
      if ((b1.getD (wi64 (n - 1)).toNat 0) == 0) = true then
        rec (wi64 (n - 1))
      else
        ex n
    else
      none
  else
    ex n
def startcode_trimmed_L2_Obl (pre : (List Int) → Int → Prop) (mu : (List Int) → Int → Nat) (S : (List Int) → Int → (Int)) : Prop :=
  ∀ (b1 : List Int) (n : Int) (_ : okT (.sl (.int .u8)) b1) (_ : okT (.int .i64) n),
  pre b1 n →
  ∀ {R : Type} (rec : Int → (Option R)) (ex : Int → (Option R)) (Good : Option R → Prop),
  (∀ (n' : Int), pre b1 n' → mu b1 n' < mu b1 n → S b1 n' = S b1 n → Good (rec n')) →
  (∀ y0, S b1 n = y0 → Good (ex y0)) →
  Good (startcode_trimmed_L2_T b1 rec ex n)

noncomputable def startcode_trimmed_F {R : Type} (k : Int → (Option R)) (b : List Int) : Option R :=
  lett ((b.length : Int)) fun x =>
  need (startcode_trimmed_L2_pre b x) <|
  lett (startcode_trimmed_L2_S b x) fun n7 =>
  k n7
def startcode_trimmed_Obl (pre : (List Int) → Prop) (S : (List Int) → (Int)) : Prop :=
  ∀ (b : List Int) (_ : okT (.sl (.int .u8)) b), pre b →
  ∀ {R : Type} (k : Int → (Option R)) (Good : Option R → Prop), Good (k ((S b))) → Good (startcode_trimmed_F k b)
noncomputable def startcode_Split_L7_T {R : Type} (b13 : List Int) (xOff : Nat) (xLen : Nat) (x14 : Int) (l18 : List Int) (rec : Int → (List D_startcode_Found) → (List D_startcode_Defect) → (Option R)) (ex : (List D_startcode_Found) → (List D_startcode_Defect) → (Option R)) (x15 : Int) (found16 : List D_startcode_Found) (defects17 : List D_startcode_Defect) : Option R :=
  if (decide (x15 < x14)) = true then
    if (0 : Int) ≤ x15 ∧ x15 < (xLen : Int) then
      lett (l18.getD (xOff + x15.toNat) 0) fun x20 =>
      if (0 : Int) ≤ (wi64 (x15 + 1)) ∧ (wi64 (x15 + 1)) < (l18.length : Int) then
        lett (l18.getD (wi64 (x15 + 1)).toNat 0) fun x22 =>
        if (0 : Int) ≤ x22 ∧ x22 ≤ (b13.length : Int) then
          if 0 ≤ x22 ∧ x22 ≤ x22 then
            if (0 : Int) ≤ (wi64 (x20 + 4)) ∧ (wi64 (x20 + 4)) ≤ (x22.toNat : Int) then
              lett (cutL b13 (wi64 (x20 + 4)).toNat x22.toNat) fun x24 =>
              need (startcode_trimmed_pre x24) <|
              lett (startcode_trimmed_S x24) fun r25 =>
              lett (wi64 ((wi64 (x20 + 4)) + r25)) fun x26 =>
              if (0 : Int) ≤ x26 ∧ x26 ≤ (b13.length : Int) then
                if 0 ≤ x26 ∧ x26 ≤ x26 then
                  if (0 : Int) ≤ (wi64 (x20 + 4)) ∧ (wi64 (x20 + 4)) ≤ (x26.toNat : Int) then
                    lett (cutL b13 (wi64 (x20 + 4)).toNat x26.toNat) fun x27 =>
                    need (startcode_Unescape_pre x27) <|
                    lett (startcode_Unescape_S x27) fun res1 =>
                    if (res1.1 != 0) = true then
                      lett ((x20, (x26, ()))) fun x31 =>
                      if 0 < 16 ∧ (defects17.length + [x31].length) * 16 ≤ room then
                        rec (wi64 (x15 + 1)) found16 (defects17 ++ [x31])
                      else
                        none
                    else
                      if (0 : Int) ≤ (wi64 (x20 + 3)) ∧ (wi64 (x20 + 3)) < (b13.length : Int) then
                        lett (wi64 (b13.getD (wi64 (x20 + 3)).toNat 0)) fun x35 =>
                        if 0 < 56 ∧ (found16.length + [((x35, (res1.2, ())), (x20, (x26, (x22, ()))))].length) * 56 ≤ room then
                          rec (wi64 (x15 + 1)) (found16 ++ [((x35, (res1.2, ())), (x20, (x26, (x22, ()))))]) defects17
                        else
                          none
                      else
                        none
                  else
                    none
                else
                  none
              else
                none
            else
              none
          else
            none
        else
          none
      else
        none
    else
      none
  else
    ex found16 defects17
def startcode_Split_L7_Obl (pre : (List Int) → Nat → Nat → Int → (List Int) → Int → (List D_startcode_Found) → (List D_startcode_Defect) → Prop) (mu : (List Int) → Nat → Nat → Int → (List Int) → Int → (List D_startcode_Found) → (List D_startcode_Defect) → Nat) (S : (List Int) → Nat → Nat → Int → (List Int) → Int → (List D_startcode_Found) → (List D_startcode_Defect) → ((List D_startcode_Found × List D_startcode_Defect))) : Prop :=
  ∀ (b13 : List Int) (xOff : Nat) (xLen : Nat) (x14 : Int) (l18 : List Int) (x15 : Int) (found16 : List D_startcode_Found) (defects17 : List D_startcode_Defect) (_ : okT (.sl (.int .u8)) b13) (_ : okT (.int .i64) x14) (_ : okT (.int .i64) x15) (_ : okT (.sl T_startcode_Found) found16) (_ : okT (.sl T_startcode_Defect) defects17) (_ : okT (.sl (.int .i64)) l18),
  pre b13 xOff xLen x14 l18 x15 found16 defects17 →
  ∀ {R : Type} (rec : Int → (List D_startcode_Found) → (List D_startcode_Defect) → (Option R)) (ex : (List D_startcode_Found) → (List D_startcode_Defect) → (Option R)) (Good : Option R → Prop),
  (∀ (x15' : Int) (found16' : List D_startcode_Found) (defects17' : List D_startcode_Defect), pre b13 xOff xLen x14 l18 x15' found16' defects17' → mu b13 xOff xLen x14 l18 x15' found16' defects17' < mu b13 xOff xLen x14 l18 x15 found16 defects17 → S b13 xOff xLen x14 l18 x15' found16' defects17' = S b13 xOff xLen x14 l18 x15 found16 defects17 → Good (rec x15' found16' defects17')) →
  (∀ y0 y1, S b13 xOff xLen x14 l18 x15 found16 defects17 = (y0, y1) → Good (ex y0 y1)) →
  Good (startcode_Split_L7_T b13 xOff xLen x14 l18 rec ex x15 found16 defects17)

noncomputable def startcode_Split_J6_T {R : Type} (ex : (List D_startcode_Found) → (List D_startcode_Defect) → (Option R)) (b8 : List Int) (found : List D_startcode_Found) (defects9 : List D_startcode_Defect) (l : List Int) : Option R :=
  lett (wi64 ((l.length : Int) - 1)) fun x11 =>
  if (0 : Int) ≤ x11 ∧ x11 ≤ (l.length : Int) then
    lett ((x11.toNat - 0 : Int)) fun x12 =>
    need (startcode_Split_L7_pre b8 0 (x11.toNat - 0) x12 l 0 found defects9) <|
    lett (startcode_Split_L7_S b8 0 (x11.toNat - 0) x12 l 0 found defects9) fun res1 =>
    ex res1.1 res1.2
  else
    none

noncomputable def startcode_Split_F {R : Type} (k : (List D_startcode_Found) → (List D_startcode_Defect) → (Option R)) (b : List Int) : Option R :=
  need (startcode_codes_pre b) <|
  lett (startcode_codes_S b) fun o =>
  lett ((b.length : Int)) fun x =>
  if 0 < 8 ∧ (o.length + [x].length) * 8 ≤ room then
    if (0 : Int) ≤ 0 ∧ 0 < ((o ++ [x]).length : Int) then
      lett ((o ++ [x]).getD ((0 : Int).toNat) 0) fun x2 =>
      if (0 : Int) ≤ 0 ∧ 0 < ((o ++ [x]).length : Int) then
        lett ((o ++ [x]).getD ((0 : Int).toNat) 0) fun x3 =>
        if (0 : Int) ≤ x3 ∧ x3 ≤ (b.length : Int) then
          if 0 ≤ x2 ∧ x2 ≤ x3 then
            lett (cutL b 0 x2.toNat) fun x4 =>
            need (startcode_trimmed_pre x4) <|
            lett (startcode_trimmed_S x4) fun r_ =>
            if (decide (r_ > 0)) = true then
              if (0 : Int) ≤ 0 ∧ 0 < ((o ++ [x]).length : Int) then
                lett ((0, (((o ++ [x]).getD ((0 : Int).toNat) 0), ()))) fun x7 =>
                if 0 < 16 ∧ (([] : List D_startcode_Defect).length + [x7].length) * 16 ≤ room then
                  startcode_Split_J6_T
                    (fun o41 o42 =>
                      k o41 o42
                    )
                    b [] (([] : List D_startcode_Defect) ++ [x7]) (o ++ [x])
                else
                  none
              else
                none
            else
              startcode_Split_J6_T
                (fun o43 o44 =>
                  k o43 o44
                )
                b [] [] (o ++ [x])
          else
            none
        else
          none
      else
        none
    else
      none
  else
    none
def startcode_Split_Obl (pre : (List Int) → Prop) (S : (List Int) → ((List D_startcode_Found × List D_startcode_Defect))) : Prop :=
  ∀ (b : List Int) (_ : okT (.sl (.int .u8)) b), pre b →
  ∀ {R : Type} (k : (List D_startcode_Found) → (List D_startcode_Defect) → (Option R)) (Good : Option R → Prop), Good (k ((S b).1) ((S b).2)) → Good (startcode_Split_F k b)
noncomputable def cutroomref03_next_L1_T {R : Type} (b1 : List Int) (rec : Int → (Option R)) (ex0 : Int → (Option R)) (ex1 : Unit → (Option R)) (i2 : Int) : Option R :=
  if (decide ((wi64 (i2 + 3)) < (b1.length : Int))) = true then
    if (0 : Int) ≤ i2 ∧ i2 < (b1.length : Int) then
      if ((b1.getD i2.toNat 0) == 0) = true then
        if (0 : Int) ≤ (wi64 (i2 + 1)) ∧ (wi64 (i2 + 1)) < (b1.length : Int) then
          if ((b1.getD (wi64 (i2 + 1)).toNat 0) == 0) = true then
            if (0 : Int) ≤ (wi64 (i2 + 2)) ∧ (wi64 (i2 + 2)) < (b1.length : Int) then
              if ((b1.getD (wi64 (i2 + 2)).toNat 0) == 1) = true then
                if (0 : Int) ≤ (wi64 (i2 + 3)) ∧ (wi64 (i2 + 3)) < (b1.length : Int) then
                  if ((b1.getD (wi64 (i2 + 3)).toNat 0) != 0) = true then
                    ex0 i2
                  else
                    rec (wi64 (i2 + 1))
                else
                  none
              else
                rec (wi64 (i2 + 1))
            else
              none
          else
            rec (wi64 (i2 + 1))
        else
          none
      else
        rec (wi64 (i2 + 1))
    else
      none
  else
    ex1 ()
def cutroomref03_next_L1_Obl (pre : (List Int) → Int → Prop) (mu : (List Int) → Int → Nat) (S : (List Int) → Int → (((Int) ⊕ (Unit)))) : Prop :=
  ∀ (b1 : List Int) (i2 : Int) (_ : okT (.sl (.int .u8)) b1) (_ : okT (.int .i64) i2),
  pre b1 i2 →
  ∀ {R : Type} (rec : Int → (Option R)) (ex0 : Int → (Option R)) (ex1 : Unit → (Option R)) (Good : Option R → Prop),
  (∀ (i2' : Int), pre b1 i2' → mu b1 i2' < mu b1 i2 → S b1 i2' = S b1 i2 → Good (rec i2')) →
  (∀ y0, S b1 i2 = (.inl y0) → Good (ex0 y0)) →
  (S b1 i2 = (.inr ()) → Good (ex1 ())) →
  Good (cutroomref03_next_L1_T b1 rec ex0 ex1 i2)

noncomputable def cutroomref03_next_F {R : Type} (k : Int → (Option R)) (b : List Int) (i : Int) : Option R :=
  need (cutroomref03_next_L1_pre b i) <|
  caseS (cutroomref03_next_L1_S b i)
    (fun x20 =>
      k x20
    )
    (fun _ =>
      k (b.length : Int)
    )
def cutroomref03_next_Obl (pre : (List Int) → Int → Prop) (S : (List Int) → Int → (Int)) : Prop :=
  ∀ (b : List Int) (i : Int) (_ : okT (.sl (.int .u8)) b) (_ : okT (.int .i64) i), pre b i →
  ∀ {R : Type} (k : Int → (Option R)) (Good : Option R → Prop), Good (k ((S b i))) → Good (cutroomref03_next_F k b i)
noncomputable def cutroomref03_clean_L2_T {R : Type} (b1 : List Int) (rec : Int → (Option R)) (ex0 : Bool → (Option R)) (ex1 : Unit → (Option R)) (i : Int) : Option R :=
  if (decide (i < (b1.length : Int))) = true then
    if (0 : Int) ≤ i ∧ i < (b1.length : Int) then
      if ((b1.getD i.toNat 0) != 0) = true then
        ex0 false
      else
        rec (wi64 (i + 1))
    else
      none
  else
    ex1 ()
def cutroomref03_clean_L2_Obl (pre : (List Int) → Int → Prop) (mu : (List Int) → Int → Nat) (S : (List Int) → Int → (((Bool) ⊕ (Unit)))) : Prop :=
  ∀ (b1 : List Int) (i : Int) (_ : okT (.sl (.int .u8)) b1) (_ : okT (.int .i64) i),
  pre b1 i →
  ∀ {R : Type} (rec : Int → (Option R)) (ex0 : Bool → (Option R)) (ex1 : Unit → (Option R)) (Good : Option R → Prop),
  (∀ (i' : Int), pre b1 i' → mu b1 i' < mu b1 i → S b1 i' = S b1 i → Good (rec i')) →
  (∀ y0, S b1 i = (.inl y0) → Good (ex0 y0)) →
  (S b1 i = (.inr ()) → Good (ex1 ())) →
  Good (cutroomref03_clean_L2_T b1 rec ex0 ex1 i)

noncomputable def cutroomref03_clean_F {R : Type} (k : Bool → (Option R)) (b : List Int) : Option R :=
  need (cutroomref03_clean_L2_pre b 0) <|
  caseS (cutroomref03_clean_L2_S b 0)
    (fun x6 =>
      k x6
    )
    (fun _ =>
      k true
    )
def cutroomref03_clean_Obl (pre : (List Int) → Prop) (S : (List Int) → (Bool)) : Prop :=
  ∀ (b : List Int) (_ : okT (.sl (.int .u8)) b), pre b →
  ∀ {R : Type} (k : Bool → (Option R)) (Good : Option R → Prop), Good (k ((S b))) → Good (cutroomref03_clean_F k b)
noncomputable def cutroomref03_Split_L9_T {R : Type} (b16 : List Int) (at17 : Int) (out18 : List D_startcode_Found) (bad19 : List D_startcode_Defect) (rec : D_startcode_Found → (Option R)) (ex : D_startcode_Found → (Option R)) (f : D_startcode_Found) : Option R :=
  if (decide (f.2.2.1 > (wi64 (at17 + 4)))) = true then
    lett (wi64 (f.2.2.1 - 1)) fun x22 =>
    if (0 : Int) ≤ x22 ∧ x22 < (b16.length : Int) then
      if ((b16.getD x22.toNat 0) == 0) = true then
        rec (f.1, (f.2.1, ((wi64 (f.2.2.1 - 1)), f.2.2.2)))
      else
        ex f
    else
      none
  else
    ex f
def cutroomref03_Split_L9_Obl (pre : (List Int) → Int → (List D_startcode_Found) → (List D_startcode_Defect) → D_startcode_Found → Prop) (mu : (List Int) → Int → (List D_startcode_Found) → (List D_startcode_Defect) → D_startcode_Found → Nat) (S : (List Int) → Int → (List D_startcode_Found) → (List D_startcode_Defect) → D_startcode_Found → (D_startcode_Found)) : Prop :=
  ∀ (b16 : List Int) (at17 : Int) (out18 : List D_startcode_Found) (bad19 : List D_startcode_Defect) (f : D_startcode_Found) (_ : okT (.sl (.int .u8)) b16) (_ : okT (.int .i64) at17) (_ : okT (.sl T_startcode_Found) out18) (_ : okT (.sl T_startcode_Defect) bad19) (_ : okT T_startcode_Found f),
  pre b16 at17 out18 bad19 f →
  ∀ {R : Type} (rec : D_startcode_Found → (Option R)) (ex : D_startcode_Found → (Option R)) (Good : Option R → Prop),
  (∀ (f' : D_startcode_Found), pre b16 at17 out18 bad19 f' → mu b16 at17 out18 bad19 f' < mu b16 at17 out18 bad19 f → S b16 at17 out18 bad19 f' = S b16 at17 out18 bad19 f → Good (rec f')) →
  (∀ y0, S b16 at17 out18 bad19 f = y0 → Good (ex y0)) →
  Good (cutroomref03_Split_L9_T b16 at17 out18 bad19 rec ex f)

noncomputable def cutroomref03_Split_L6_T {R : Type} (b6 : List Int) (rec : Int → (List D_startcode_Found) → (List D_startcode_Defect) → (Option R)) (ex : (List D_startcode_Found) → (List D_startcode_Defect) → (Option R)) (at7 : Int) (out8 : List D_startcode_Found) (bad9 : List D_startcode_Defect) : Option R :=
  if (decide (at7 < (b6.length : Int))) = true then
    need (cutroomref03_next_pre b6 (wi64 (at7 + 4))) <|
    lett (cutroomref03_next_S b6 (wi64 (at7 + 4))) fun r13 =>
    lett ((Z_api_Unit, (at7, (0, (r13, ()))))) fun x14 =>
    lett ((x14.1, (x14.2.1, (x14.2.2.2.1, x14.2.2.2)))) fun x15 =>
    need (cutroomref03_Split_L9_pre b6 at7 out8 bad9 x15) <|
    lett (cutroomref03_Split_L9_S b6 at7 out8 bad9 x15) fun f27 =>
    if (0 : Int) ≤ f27.2.2.1 ∧ f27.2.2.1 ≤ (b6.length : Int) then
      if (0 : Int) ≤ (wi64 (at7 + 4)) ∧ (wi64 (at7 + 4)) ≤ (f27.2.2.1.toNat : Int) then
        lett (cutL b6 (wi64 (at7 + 4)).toNat f27.2.2.1.toNat) fun x29 =>
        need (cutroomref03_Unescape_pre x29) <|
        lett (cutroomref03_Unescape_S x29) fun res1 =>
        if (res1.1 == 0) = true then
          if (0 : Int) ≤ (wi64 (at7 + 3)) ∧ (wi64 (at7 + 3)) < (b6.length : Int) then
            lett (wi64 (b6.getD (wi64 (at7 + 3)).toNat 0)) fun x34 =>
            if 0 < 56 ∧ (out8.length + [((x34, (res1.2, ())), (f27.2.1, (f27.2.2.1, (f27.2.2.2.1, ()))))].length) * 56 ≤ room then
              rec f27.2.2.2.1 (out8 ++ [((x34, (res1.2, ())), (f27.2.1, (f27.2.2.1, (f27.2.2.2.1, ()))))]) bad9
            else
              none
          else
            none
        else
          lett ((f27.2.1, (f27.2.2.1, ()))) fun x36 =>
          if 0 < 16 ∧ (bad9.length + [x36].length) * 16 ≤ room then
            rec f27.2.2.2.1 out8 (bad9 ++ [x36])
          else
            none
      else
        none
    else
      none
  else
    ex out8 bad9
def cutroomref03_Split_L6_Obl (pre : (List Int) → Int → (List D_startcode_Found) → (List D_startcode_Defect) → Prop) (mu : (List Int) → Int → (List D_startcode_Found) → (List D_startcode_Defect) → Nat) (S : (List Int) → Int → (List D_startcode_Found) → (List D_startcode_Defect) → ((List D_startcode_Found × List D_startcode_Defect))) : Prop :=
  ∀ (b6 : List Int) (at7 : Int) (out8 : List D_startcode_Found) (bad9 : List D_startcode_Defect) (_ : okT (.sl (.int .u8)) b6) (_ : okT (.int .i64) at7) (_ : okT (.sl T_startcode_Found) out8) (_ : okT (.sl T_startcode_Defect) bad9),
  pre b6 at7 out8 bad9 →
  ∀ {R : Type} (rec : Int → (List D_startcode_Found) → (List D_startcode_Defect) → (Option R)) (ex : (List D_startcode_Found) → (List D_startcode_Defect) → (Option R)) (Good : Option R → Prop),
  (∀ (at7' : Int) (out8' : List D_startcode_Found) (bad9' : List D_startcode_Defect), pre b6 at7' out8' bad9' → mu b6 at7' out8' bad9' < mu b6 at7 out8 bad9 → S b6 at7' out8' bad9' = S b6 at7 out8 bad9 → Good (rec at7' out8' bad9')) →
  (∀ y0 y1, S b6 at7 out8 bad9 = (y0, y1) → Good (ex y0 y1)) →
  Good (cutroomref03_Split_L6_T b6 rec ex at7 out8 bad9)

noncomputable def cutroomref03_Split_J6_T {R : Type} (ex : (List D_startcode_Found) → (List D_startcode_Defect) → (Option R)) (b4 : List Int) (at_ : Int) (out : List D_startcode_Found) (bad5 : List D_startcode_Defect) : Option R :=
  need (cutroomref03_Split_L6_pre b4 at_ out bad5) <|
  lett (cutroomref03_Split_L6_S b4 at_ out bad5) fun res1 =>
  ex res1.1 res1.2

noncomputable def cutroomref03_Split_F {R : Type} (k : (List D_startcode_Found) → (List D_startcode_Defect) → (Option R)) (b : List Int) : Option R :=
  need (cutroomref03_next_pre b 0) <|
  lett (cutroomref03_next_S b 0) fun r_ =>
  if (0 : Int) ≤ r_ ∧ r_ ≤ (b.length : Int) then
    lett (cutL b 0 r_.toNat) fun x =>
    need (cutroomref03_clean_pre x) <|
    lett (cutroomref03_clean_S x) fun r1 =>
    if (!r1) = true then
      if 0 < 16 ∧ (([] : List D_startcode_Defect).length + [(0, (r_, ()))].length) * 16 ≤ room then
        cutroomref03_Split_J6_T
          (fun o40 o41 =>
            k o40 o41
          )
          b r_ [] (([] : List D_startcode_Defect) ++ [(0, (r_, ()))])
      else
        none
    else
      cutroomref03_Split_J6_T
        (fun o42 o43 =>
          k o42 o43
        )
        b r_ [] []
  else
    none
def cutroomref03_Split_Obl (pre : (List Int) → Prop) (S : (List Int) → ((List D_startcode_Found × List D_startcode_Defect))) : Prop :=
  ∀ (b : List Int) (_ : okT (.sl (.int .u8)) b), pre b →
  ∀ {R : Type} (k : (List D_startcode_Found) → (List D_startcode_Defect) → (Option R)) (Good : Option R → Prop), Good (k ((S b).1) ((S b).2)) → Good (cutroomref03_Split_F k b)
noncomputable def cutroomref03_SameUnit_F {R : Type} (k : Bool → (Option R)) (a : D_api_Unit) (b : D_api_Unit) : Option R :=
  if (a.1 == b.1) = true then
    need (cutroomref02_SameBytes_pre a.2.1 b.2.1) <|
    lett (cutroomref02_SameBytes_S a.2.1 b.2.1) fun r_ =>
    k r_
  else
    k false
def cutroomref03_SameUnit_Obl (pre : D_api_Unit → D_api_Unit → Prop) (S : D_api_Unit → D_api_Unit → (Bool)) : Prop :=
  ∀ (a : D_api_Unit) (b : D_api_Unit) (_ : okT T_api_Unit a) (_ : okT T_api_Unit b), pre a b →
  ∀ {R : Type} (k : Bool → (Option R)) (Good : Option R → Prop), Good (k ((S a b))) → Good (cutroomref03_SameUnit_F k a b)
noncomputable def cutroomlaw03_same_F {R : Type} (k : Bool → (Option R)) (a : D_startcode_Found) (b : D_startcode_Found) : Option R :=
  if (a.2.1 == b.2.1) = true then
    if (a.2.2.1 == b.2.2.1) = true then
      if (a.2.2.2.1 == b.2.2.2.1) = true then
        need (cutroomref03_SameUnit_pre a.1 b.1) <|
        lett (cutroomref03_SameUnit_S a.1 b.1) fun r_ =>
        k r_
      else
        k false
    else
      k false
  else
    k false
def cutroomlaw03_same_Obl (pre : D_startcode_Found → D_startcode_Found → Prop) (S : D_startcode_Found → D_startcode_Found → (Bool)) : Prop :=
  ∀ (a : D_startcode_Found) (b : D_startcode_Found) (_ : okT T_startcode_Found a) (_ : okT T_startcode_Found b), pre a b →
  ∀ {R : Type} (k : Bool → (Option R)) (Good : Option R → Prop), Good (k ((S a b))) → Good (cutroomlaw03_same_F k a b)
noncomputable def cutroomlaw03_StartcodeSplit_L8_T {R : Type} (l : List D_startcode_Found) (bad : List D_startcode_Defect) (m : List D_startcode_Found) (worse : List D_startcode_Defect) (rec : Int → (Option R)) (ex0 : Bool → (Option R)) (ex1 : Unit → (Option R)) (i : Int) : Option R :=
  if (decide (i < (l.length : Int))) = true then
    if (0 : Int) ≤ i ∧ i < (l.length : Int) then
      lett (l.getD i.toNat Z_startcode_Found) fun x13 =>
      if (0 : Int) ≤ i ∧ i < (m.length : Int) then
        lett (m.getD i.toNat Z_startcode_Found) fun x14 =>
        need (cutroomlaw03_same_pre x13 x14) <|
        lett (cutroomlaw03_same_S x13 x14) fun r_ =>
        if (!r_) = true then
          ex0 false
        else
          rec (wi64 (i + 1))
      else
        none
    else
      none
  else
    ex1 ()
def cutroomlaw03_StartcodeSplit_L8_Obl (pre : (List D_startcode_Found) → (List D_startcode_Defect) → (List D_startcode_Found) → (List D_startcode_Defect) → Int → Prop) (mu : (List D_startcode_Found) → (List D_startcode_Defect) → (List D_startcode_Found) → (List D_startcode_Defect) → Int → Nat) (S : (List D_startcode_Found) → (List D_startcode_Defect) → (List D_startcode_Found) → (List D_startcode_Defect) → Int → (((Bool) ⊕ (Unit)))) : Prop :=
  ∀ (l : List D_startcode_Found) (bad : List D_startcode_Defect) (m : List D_startcode_Found) (worse : List D_startcode_Defect) (i : Int) (_ : okT (.int .i64) i) (_ : okT (.sl T_startcode_Found) l) (_ : okT (.sl T_startcode_Defect) bad) (_ : okT (.sl T_startcode_Found) m) (_ : okT (.sl T_startcode_Defect) worse),
  pre l bad m worse i →
  ∀ {R : Type} (rec : Int → (Option R)) (ex0 : Bool → (Option R)) (ex1 : Unit → (Option R)) (Good : Option R → Prop),
  (∀ (i' : Int), pre l bad m worse i' → mu l bad m worse i' < mu l bad m worse i → S l bad m worse i' = S l bad m worse i → Good (rec i')) →
  (∀ y0, S l bad m worse i = (.inl y0) → Good (ex0 y0)) →
  (S l bad m worse i = (.inr ()) → Good (ex1 ())) →
  Good (cutroomlaw03_StartcodeSplit_L8_T l bad m worse rec ex0 ex1 i)

noncomputable def cutroomlaw03_StartcodeSplit_L13_T {R : Type} (bad19 : List D_startcode_Defect) (worse20 : List D_startcode_Defect) (rec : Int → (Option R)) (ex0 : Bool → (Option R)) (ex1 : Unit → (Option R)) (i18 : Int) : Option R :=
  if (decide (i18 < (bad19.length : Int))) = true then
    if (0 : Int) ≤ i18 ∧ i18 < (bad19.length : Int) then
      if (0 : Int) ≤ i18 ∧ i18 < (worse20.length : Int) then
        if ((bad19.getD i18.toNat Z_startcode_Defect).1 != (worse20.getD i18.toNat Z_startcode_Defect).1) = true then
          ex0 false
        else
          if (0 : Int) ≤ i18 ∧ i18 < (bad19.length : Int) then
            if (0 : Int) ≤ i18 ∧ i18 < (worse20.length : Int) then
              if ((bad19.getD i18.toNat Z_startcode_Defect).2.1 != (worse20.getD i18.toNat Z_startcode_Defect).2.1) = true then
                ex0 false
              else
                rec (wi64 (i18 + 1))
            else
              none
          else
            none
      else
        none
    else
      none
  else
    ex1 ()
def cutroomlaw03_StartcodeSplit_L13_Obl (pre : (List D_startcode_Defect) → (List D_startcode_Defect) → Int → Prop) (mu : (List D_startcode_Defect) → (List D_startcode_Defect) → Int → Nat) (S : (List D_startcode_Defect) → (List D_startcode_Defect) → Int → (((Bool) ⊕ (Unit)))) : Prop :=
  ∀ (bad19 : List D_startcode_Defect) (worse20 : List D_startcode_Defect) (i18 : Int) (_ : okT (.int .i64) i18) (_ : okT (.sl T_startcode_Defect) bad19) (_ : okT (.sl T_startcode_Defect) worse20),
  pre bad19 worse20 i18 →
  ∀ {R : Type} (rec : Int → (Option R)) (ex0 : Bool → (Option R)) (ex1 : Unit → (Option R)) (Good : Option R → Prop),
  (∀ (i18' : Int), pre bad19 worse20 i18' → mu bad19 worse20 i18' < mu bad19 worse20 i18 → S bad19 worse20 i18' = S bad19 worse20 i18 → Good (rec i18')) →
  (∀ y0, S bad19 worse20 i18 = (.inl y0) → Good (ex0 y0)) →
  (S bad19 worse20 i18 = (.inr ()) → Good (ex1 ())) →
  Good (cutroomlaw03_StartcodeSplit_L13_T bad19 worse20 rec ex0 ex1 i18)

noncomputable def cutroomlaw03_StartcodeSplit_F {R : Type} (k : Bool → (Option R)) (b : List Int) : Option R :=
  if (decide ((b.length : Int) > 2000)) = true then
    k true
  else
    need (startcode_Split_pre b) <|
    lett (startcode_Split_S b) fun res1 =>
    need (cutroomref03_Split_pre b) <|
    lett (cutroomref03_Split_S b) fun res2 =>
    if ((res1.1.length : Int) != (res2.1.length : Int)) = true then
      k false
    else
      if ((res1.2.length : Int) != (res2.2.length : Int)) = true then
        k false
      else
        need (cutroomlaw03_StartcodeSplit_L8_pre res1.1 res1.2 res2.1 res2.2 0) <|
        caseS (cutroomlaw03_StartcodeSplit_L8_S res1.1 res1.2 res2.1 res2.2 0)
          (fun x17 =>
            k x17
          )
          (fun _ =>
            need (cutroomlaw03_StartcodeSplit_L13_pre res1.2 res2.2 0) <|
            caseS (cutroomlaw03_StartcodeSplit_L13_S res1.2 res2.2 0)
              (fun x30 =>
                k x30
              )
              (fun _ =>
                need (cutroomlaw03_awake_pre) <|
                lett (cutroomlaw03_awake_S) fun r31 =>
                k r31
              )
          )
def cutroomlaw03_StartcodeSplit_Obl (pre : (List Int) → Prop) (S : (List Int) → (Bool)) : Prop :=
  ∀ (b : List Int) (_ : okT (.sl (.int .u8)) b), pre b →
  ∀ {R : Type} (k : Bool → (Option R)) (Good : Option R → Prop), Good (k ((S b))) → Good (cutroomlaw03_StartcodeSplit_F k b)
theorem w64_01 : wi64 (0 + 1) = 1 := by decide
theorem startcode_escaped_L3_ok : startcode_escaped_L3_Obl startcode_escaped_L3_pre startcode_escaped_L3_mu startcode_escaped_L3_S := by
  intro p n zeros i out _ hp _ _ _ ⟨hn, h0, h1, h2, h3, h4⟩ R rec ex Good hr hx
  subst hn
  have hm := okSl hp
  unfold startcode_escaped_L3_S at hr hx
  unfold startcode_escaped_L3_mu startcode_escaped_L3_pre at hr
  have hroom := room_eq
  refine gD (fun hlt => ?_) (fun hlt => ?_)
  · rw [dropAt h0 hlt 0] at hr
    have hi : wi64 (i + 1) = i + 1 := w64 (by omega) (by omega)
    have hz : wi64 (zeros + 1) = zeros + 1 := w64 (by omega) (by omega)
    rw [hi, hz, w64_01]
    refine gC ⟨h0, hlt⟩ (fun _ => gL fun c hc => ?_)
    rw [← hc] at hr
    have one : ¬ (2 ≤ zeros ∧ c < 4) → ∀ z', z' = (if c = 0 then zeros + 1 else 0) → Good (rec z' (i + 1) (out ++ [c])) := fun hn z' hz' =>
      hr _ _ _ ⟨rfl, by omega, by omega, by split at hz' <;> omega, by split at hz' <;> omega, by simp; omega⟩ (by omega) (by simp [escL, hn, hz'])
    have two : 2 ≤ zeros ∧ c < 4 → ∀ z', z' = (if c = 0 then 1 else 0) → Good (rec z' (i + 1) ((out ++ [3]) ++ [c])) := fun hn z' hz' =>
      hr _ _ _ ⟨rfl, by omega, by omega, by split at hz' <;> omega, by split at hz' <;> omega, by simp; omega⟩ (by omega) (by simp [escL, hn, hz'])
    refine gD (fun z2 => gD (fun c4 => gC (by simp; omega) fun _ => gC (by simp; omega) fun _ => gL fun o' ho => ?_) (fun c4 => gC (by simp; omega) fun _ => ?_)) (fun z2 => gC (by simp; omega) fun _ => ?_)
    · subst ho
      exact gN (fun h => two ⟨z2, c4⟩ _ (by simp [h])) (fun h => two ⟨z2, c4⟩ _ (by simp [h]))
    · exact gN (fun h => one (by omega) _ (by simp [h])) (fun h => one (by omega) _ (by simp [h]))
    · exact gN (fun h => one (by omega) _ (by simp [h])) (fun h => one (by omega) _ (by simp [h]))
  · exact hx _ (by rw [List.drop_eq_nil_of_le (by omega)]; simp [escL])
theorem startcode_escaped_ok : startcode_escaped_Obl startcode_escaped_pre startcode_escaped_S := by
  intro p out _ _ hp R k Good hk
  unfold startcode_escaped_pre at hp
  unfold startcode_escaped_S at hk
  refine gL fun n hn => gNeed ⟨hn, by omega, by omega, by omega, by omega, by have := room_eq; omega⟩ fun _ => gL fun o ho => ?_
  subst ho
  simpa [startcode_escaped_L3_S] using hk
theorem tz_snoc (l : List Int) (c : Int) : tz (l ++ [c]) = if c = 0 then tz l + 1 else 0 := by
  unfold tz
  rw [List.reverse_append, List.reverse_cons, List.reverse_nil, List.nil_append, List.singleton_append, List.takeWhile_cons]
  by_cases h : c = 0
  · subst h; simp
  · simp [h]
theorem tz_nonneg (l : List Int) : 0 ≤ tz l := by unfold tz; omega
theorem tz_two (l : List Int) : 2 ≤ tz l ↔ ∃ m, l = m ++ [0, 0] := by
  constructor
  · intro h
    rcases hr : l.reverse with _ | ⟨a, r⟩
    · unfold tz at h; rw [hr] at h; simp at h
    · rcases r with _ | ⟨b, r⟩
      · unfold tz at h
        rw [hr, List.takeWhile_cons] at h
        split at h <;> simp at h
      · unfold tz at h
        rw [hr, List.takeWhile_cons, List.takeWhile_cons] at h
        by_cases ha : a = 0
        · by_cases hb : b = 0
          · refine ⟨r.reverse, ?_⟩
            have := congrArg List.reverse hr
            simp at this
            rw [this, ha, hb]
          · simp [ha, hb] at h
        · simp [ha] at h
  · rintro ⟨m, rfl⟩
    unfold tz
    rw [List.reverse_append]
    simp
    omega
theorem two_zeros {l : List Int} (h2 : 2 ≤ l.length) : (l.getD (l.length - 1) 0 = 0 ∧ l.getD (l.length - 2) 0 = 0) ↔ 2 ≤ tz l := by
  rw [tz_two]
  obtain ⟨m, a, b, rfl⟩ : ∃ m a b, l = m ++ [a, b] := by
    rcases hr : l.reverse with _ | ⟨b, _ | ⟨a, r⟩⟩
    · simp at hr; subst hr; simp at h2
    · have := congrArg List.length hr; simp at this; omega
    · have := congrArg List.reverse hr; simp at this; exact ⟨r.reverse, a, b, by simpa using this⟩
  have e1 : (m ++ [a, b]).length - 1 = m.length + 1 := by simp
  have e2 : (m ++ [a, b]).length - 2 = m.length := by simp
  rw [e1, e2]
  have e3 : (m ++ [a, b]).getD (m.length + 1) 0 = b := by simp [List.getD]
  have e4 : (m ++ [a, b]).getD m.length 0 = a := by simp [List.getD]
  rw [e3, e4]
  constructor
  · rintro ⟨rfl, rfl⟩; exact ⟨m, rfl⟩
  · rintro ⟨m', h⟩
    have := List.append_inj_right' h rfl
    simp at this
    exact ⟨this.2, this.1⟩


theorem cutroomref03_Escape_L5_ok : cutroomref03_Escape_L5_Obl cutroomref03_Escape_L5_pre cutroomref03_Escape_L5_mu cutroomref03_Escape_L5_S := by
  intro p i out hpo _ _ ⟨h0, h1, h2⟩ R rec ex Good hr hx
  have hm := okSl hpo
  unfold cutroomref03_Escape_L5_S at hr hx
  unfold cutroomref03_Escape_L5_mu cutroomref03_Escape_L5_pre at hr
  have hroom := room_eq
  refine gD (fun hlt => ?_) (fun hlt => ?_)
  · rw [dropAt h0 hlt 0] at hr
    rw [w64 (x := i + 1) (by omega) (by omega)]
    refine gL fun n hn => gC ⟨h0, hlt⟩ fun _ => ?_
    generalize p.getD i.toNat 0 = c at *
    have one : ∀ (_ : ¬ (c < 4 ∧ 2 ≤ tz out)), Good (rec (i + 1) (out ++ [c])) := fun hn =>
      hr _ _ ⟨by omega, by omega, by simp; omega⟩ (by omega) (by
        rw [tz_snoc]
        have : ¬ (2 ≤ tz out ∧ c < 4) := fun h => hn ⟨h.2, h.1⟩
        simp [escL, this])
    have two : c < 4 ∧ 2 ≤ tz out → Good (rec (i + 1) ((out ++ [3]) ++ [c])) := fun hn =>
      hr _ _ ⟨by omega, by omega, by simp; omega⟩ (by omega) (by
        rw [tz_snoc, tz_snoc]
        simp [escL, hn])
    have key : 2 ≤ out.length → _ := two_zeros (l := out)
    have small : ¬ 2 ≤ out.length → ¬ 2 ≤ tz out := fun hl h => by obtain ⟨m, rfl⟩ := (tz_two out).1 h; simp at hl
    have fin : ∀ (_ : ¬ (c < 4 ∧ 2 ≤ tz out)), Good (if 0 ≤ i ∧ i < (p.length : Int) then lett c fun x => if 0 < 1 ∧ (out.length + [x].length) * 1 ≤ room then rec (i + 1) (out ++ [x]) else none else none) := fun hn =>
      gC ⟨h0, hlt⟩ fun _ => gL fun x hx => by subst hx; exact gC (by simp; omega) fun _ => one hn
    refine gD (fun c4 => gD (fun hl => ?_) fun hl => fin fun h => small (by omega) h.2) (fun c4 => fin fun h => c4 h.1)
    have hk := key (by omega)
    have e1 : wi64 (n - 1) = ((out.length - 1 : Nat) : Int) := by rw [w64 (by omega) (by omega)]; omega
    have e2 : wi64 (n - 2) = ((out.length - 2 : Nat) : Int) := by rw [w64 (by omega) (by omega)]; omega
    rw [e1, e2, Int.toNat_natCast, Int.toNat_natCast]
    refine gC (by omega) fun _ => gE (fun z1 => gC (by omega) fun _ => gE (fun z2 => ?_) fun z2 => fin fun h => z2 (hk.2 h.2).2) fun z1 => fin fun h => z1 (hk.2 h.2).1
    refine gC (by simp; omega) fun _ => gC ⟨h0, hlt⟩ fun _ => gL fun x hx => ?_
    subst hx
    exact gC (by simp; omega) fun _ => two ⟨c4, hk.1 ⟨z1, z2⟩⟩
  · exact hx _ (by rw [List.drop_eq_nil_of_le (by omega)]; simp [escL])
theorem endsZero_snoc (l : List Int) (c : Int) : endsZero (l ++ [c]) = (c == 0) := by unfold endsZero; simp
theorem last_endsZero {l : List Int} (h : 0 < l.length) : (l.getD (l.length - 1) 0 = 0) ↔ endsZero l = true := by
  obtain ⟨m, c, rfl⟩ : ∃ m c, l = m ++ [c] := ⟨l.dropLast, l.getLast (by intro e; simp [e] at h), (List.dropLast_concat_getLast _).symm⟩
  rw [endsZero_snoc]
  simp [List.getD]
theorem cutroomref03_Escape_J3_good {R : Type} {Good : Option R → Prop} {ex : Int → List Int → Option R} {p : List Int} (h : cutroomref03_Escape_pre p) (hx : Good (ex 0 (escL 0 p))) :
    Good (cutroomref03_Escape_J3_T ex p) := by
  unfold cutroomref03_Escape_pre at h
  refine gNeed ⟨by omega, by omega, by have := room_eq; simp; omega⟩ fun _ => gL fun o ho => ?_
  subst ho
  simpa [cutroomref03_Escape_L5_S, tz] using hx
theorem cutroomref03_Escape_ok : cutroomref03_Escape_Obl cutroomref03_Escape_pre cutroomref03_Escape_S := by
  intro p hpo hp R k Good hk
  have hm := okSl hpo
  unfold cutroomref03_Escape_S escR at hk
  refine gD (fun hl => ?_) (fun hl => ?_)
  · refine gL fun x hx => ?_
    have e : x = ((p.length - 1 : Nat) : Int) := by rw [hx, w64 (by omega) (by omega)]; omega
    rw [e, Int.toNat_natCast]
    have hz := last_endsZero (l := p) (by omega)
    refine gC (by omega) fun _ => gE (fun h => ?_) (fun h => ?_)
    · rw [if_pos (hz.1 h)] at hk; exact hk
    · rw [if_neg (fun h' => h (hz.2 h'))] at hk
      exact cutroomref03_Escape_J3_good hp hk
  · have : p = [] := List.length_eq_zero_iff.1 (by omega)
    subst this
    exact cutroomref03_Escape_J3_good hp hk

theorem escL_len : ∀ (z : Int) (p : List Int), (escL z p).length ≤ 2 * p.length
  | _, [] => by simp [escL]
  | z, c :: p => by
    rw [escL]
    split
    · have := escL_len (if c = 0 then 1 else 0) p; simp; omega
    · have := escL_len (if c = 0 then z + 1 else 0) p; simp; omega
/-- where a list ends in a zero, as the program asks it -/
theorem lastK {R : Type} {Good : Option R → Prop} {p : List Int} (hm : (p.length : Int) ≤ 9223372036854775807) {n : Int} (hn : n = p.length) {x y : Option R}
    (h1 : endsZero p = true → Good x) (h2 : endsZero p = false → Good y) :
    Good (if (decide (n > 0)) = true then if 0 ≤ (wi64 (n - 1)) ∧ (wi64 (n - 1)) < (p.length : Int) then if ((p.getD (wi64 (n - 1)).toNat 0) == 0) = true then x else y else none else y) := by
  subst hn
  refine gD (fun hl => ?_) (fun hl => ?_)
  · have e : wi64 ((p.length : Int) - 1) = ((p.length - 1 : Nat) : Int) := by rw [w64 (by omega) (by omega)]; omega
    rw [e, Int.toNat_natCast]
    have hz := last_endsZero (l := p) (by omega)
    exact gC (by omega) fun _ => gE (fun h => h1 (hz.1 h)) (fun h => h2 (by cases hh : endsZero p with | false => rfl | true => exact absurd (hz.2 hh) h))
  · have : p = [] := List.length_eq_zero_iff.1 (by omega)
    subst this
    exact h2 rfl
theorem startcode_Format_ok : startcode_Format_Obl startcode_Format_pre startcode_Format_S := by
  intro u hu hp R k Good hk
  unfold startcode_Format_pre at hp
  have hm := okSl (t := .int .u8) hu.2.1
  unfold startcode_Format_S at hk
  refine gD (fun h => by rw [if_pos (by omega)] at hk; exact hk) fun h1 => gD (fun h => by rw [if_pos (by omega)] at hk; exact hk) fun h2 => ?_
  rw [if_neg (by omega)] at hk
  refine gL fun n hn => lastK hm hn (fun h => ?_) (fun h => ?_)
  · rw [if_pos h] at hk; exact hk
  · rw [h] at hk
    rw [wu8_id (by omega) (by omega)]
    exact gNeed (by unfold startcode_escaped_pre; simp; omega) fun _ => gL fun o ho => by subst ho; exact hk
theorem cutroomref03_Format_ok : cutroomref03_Format_Obl cutroomref03_Format_pre cutroomref03_Format_S := by
  intro u hu hp R k Good hk
  unfold cutroomref03_Format_pre at hp
  unfold cutroomref03_Format_S startcode_Format_S at hk
  refine gD (fun h => by rw [if_pos (by omega)] at hk; exact hk) fun h1 => gD (fun h => by rw [if_pos (by omega)] at hk; exact hk) fun h2 => ?_
  rw [if_neg (by omega)] at hk
  rw [wu8_id (by omega) (by omega)]
  refine gNeed (by unfold cutroomref03_Escape_pre; omega) fun _ => gL fun r hr => ?_
  subst hr
  unfold cutroomref03_Escape_S escR
  by_cases h : endsZero u.2.1 = true
  · rw [if_pos h] at hk ⊢
    exact gN (fun _ => hk) (fun h => by simp at h)
  · rw [if_neg h] at hk ⊢
    have := escL_len 0 u.2.1
    exact gN (fun h => by simp at h) (fun _ => gC (by have := room_eq; simp; omega) fun _ => hk)
theorem startcode_Escape_ok : startcode_Escape_Obl startcode_Escape_pre startcode_Escape_S := by
  intro p hpo hp R k Good hk
  unfold startcode_Escape_pre at hp
  unfold startcode_Escape_S escR at hk
  refine gL fun n hn => lastK (okSl hpo) hn (fun h => ?_) (fun h => ?_)
  · rw [if_pos h] at hk; exact hk
  · rw [h] at hk
    exact gNeed (by unfold startcode_escaped_pre; simp; omega) fun _ => gL fun o ho => by subst ho; exact hk
theorem cutroomref02_SameBytes_ok : cutroomref02_SameBytes_Obl cutroomref02_SameBytes_pre cutroomref02_SameBytes_S := fun _ _ _ _ _ _ _ _ hk => hk
theorem same_self (a : List Int) : cutroomref02_SameBytes_S a a = true := by unfold cutroomref02_SameBytes_S; simp
theorem cutroomlaw03_awake_ok : cutroomlaw03_awake_Obl cutroomlaw03_awake_pre cutroomlaw03_awake_S := by
  intro _ R k Good hk
  refine gNeed (by unfold startcode_Escape_pre; decide) fun _ => gL fun r hr => ?_
  have : r = (0, [0, 0, 3, 1]) := by rw [hr]; decide
  subst this
  exact gE (fun _ => gNeed trivial fun _ => gL fun r hr => by rw [hr, same_self]; exact hk) (fun h => absurd rfl h)
theorem awake_pass {R : Type} {Good : Option R → Prop} {f : Bool → Option R} (h : Good (f true)) : Good (need cutroomlaw03_awake_pre (lett cutroomlaw03_awake_S f)) :=
  gNeed trivial fun _ => h
theorem cutroomlaw03_StartcodeFormat_ok : cutroomlaw03_StartcodeFormat_Obl cutroomlaw03_StartcodeFormat_pre cutroomlaw03_StartcodeFormat_S := by
  intro u hu _ R k Good hk
  refine gD (fun _ => hk) fun h => ?_
  have hl : u.2.1.length ≤ 2000 := by omega
  have hroom := room_eq
  refine gNeed (by unfold startcode_Format_pre; omega) fun _ => gL fun a ha => gNeed (by unfold cutroomref03_Format_pre; omega) fun _ => gL fun b hb => awake_pass ?_
  subst ha; subst hb
  refine gB (fun _ => gE (fun _ => gNeed trivial fun _ => gL fun r hr => ?_) fun h => absurd rfl h) (fun h => by cases h)
  rw [hr]
  unfold cutroomref03_Format_S
  rw [same_self]
  exact hk
theorem cutroomlaw03_StartcodeFormat_law (u : D_api_Unit) (_ : okT T_api_Unit u) : cutroomlaw03_StartcodeFormat_pre u ∧ cutroomlaw03_StartcodeFormat_S u = true := ⟨trivial, rfl⟩

theorem toList_data (b : ByteArray) : b.toList = b.data.toList := by
  have key : ∀ (n i : Nat) (r : List UInt8), n = b.size - i → ByteArray.toList.loop b i r = r.reverse ++ b.data.toList.drop i := by
    intro n
    induction n with
    | zero =>
      intro i r h
      unfold ByteArray.toList.loop
      rw [if_neg (by omega), List.drop_eq_nil_of_le (by have : b.data.toList.length = b.size := by simp
                                                        omega)]
      simp
    | succ n ih =>
      intro i r h
      unfold ByteArray.toList.loop
      have hi : i < b.data.toList.length := by have : b.data.toList.length = b.size := by simp
                                               omega
      rw [if_pos (by omega), ih (i + 1) _ (by omega), List.drop_eq_getElem_cons hi]
      have hi2 : i < b.size := by omega
      simp [ByteArray.get!, hi2]
  have := key (b.size - 0) 0 [] rfl
  simpa [ByteArray.toList] using this
theorem strL_inj : ∀ {a b : List Int}, (∀ x ∈ a, 0 ≤ x ∧ x ≤ 255) → (∀ x ∈ b, 0 ≤ x ∧ x ≤ 255) → (a.map fun n => UInt8.ofNat n.toNat) = (b.map fun n => UInt8.ofNat n.toNat) → a = b
  | [], [], _, _, _ => rfl
  | x :: a, y :: b, ha, hb, h => by
    simp only [List.map_cons, List.cons.injEq] at h
    have h1 := ha x (by simp)
    have h2 := hb y (by simp)
    have h3 := congrArg UInt8.toNat h.1
    simp only [UInt8.toNat_ofNat'] at h3
    rw [Nat.mod_eq_of_lt (by omega), Nat.mod_eq_of_lt (by omega)] at h3
    rw [show x = y by omega, strL_inj (fun z hz => ha z (by simp [hz])) (fun z hz => hb z (by simp [hz])) h.2]
  | [], _ :: _, _, _, h => by simp at h
  | _ :: _, [], _, _, h => by simp at h
def Bytes (a : List Int) : Prop := ∀ x ∈ a, 0 ≤ x ∧ x ≤ 255
theorem same_iff {a b : List Int} (ha : Bytes a) (hb : Bytes b) : cutroomref02_SameBytes_S a b = true ↔ a = b := by
  constructor
  · intro h
    unfold cutroomref02_SameBytes_S at h
    rw [toList_data, toList_data] at h
    exact strL_inj ha hb (by simpa [strL] using h)
  · rintro rfl; exact same_self _
theorem okBytes {l : List Int} (h : okT (.sl (.int .u8)) l) : Bytes l := fun x hx => okByte (h.2 x hx)

/-! ### escapes read back -/
theorem unL_esc : ∀ (z : Int) (p out : List Int), unL z (escL z p) out = .inr (out ++ p)
  | _, [], out => by simp [escL, unL]
  | z, c :: p, out => by
    rw [escL]
    by_cases h : 2 ≤ z ∧ c < 4
    · rw [if_pos h, unL, if_pos ⟨h.1, by decide⟩, if_pos ⟨rfl, by simp, by simpa using h.2⟩, unL, if_neg (by omega)]
      have := unL_esc (if c = 0 then 1 else 0) p (out ++ [c])
      by_cases hc : c = 0 <;> simp [hc] at this ⊢ <;> exact this
    · rw [if_neg h, unL, if_neg h, unL_esc]
      simp
theorem esc_unL : ∀ (z : Int) (b out q : List Int), unL z b out = .inr q → ∃ p, q = out ++ p ∧ escL z p = b
  | _, [], out, q, h => by simp [unL] at h; exact ⟨[], by simp [h], by simp [escL]⟩
  | z, c :: r, out, q, h => by
    rw [unL] at h
    by_cases hz : 2 ≤ z ∧ c < 4
    · rw [if_pos hz] at h
      split at h
      · rename_i hc
        obtain ⟨rfl, hr, hd⟩ := hc
        obtain ⟨p, rfl, hp⟩ := esc_unL 0 r out q h
        refine ⟨p, rfl, ?_⟩
        cases p with
        | nil => simp [escL] at hp; exact absurd hp hr
        | cons d p =>
          rw [escL, if_neg (by omega)] at hp
          rw [← hp] at hd
          rw [escL, if_pos ⟨hz.1, by simpa using hd⟩, ← hp]
          simp
      · cases h
    · rw [if_neg hz] at h
      obtain ⟨p, rfl, hp⟩ := esc_unL _ r _ q h
      exact ⟨c :: p, by simp, by rw [escL, if_neg hz, hp]⟩
theorem strip_esc : ∀ (z : Int) (p : List Int), 0 ≤ z → stripL (min z 2) (escL z p) = p
  | _, [], _ => by simp [escL, stripL]
  | z, c :: p, hz => by
    rw [escL]
    by_cases h : 2 ≤ z ∧ c < 4
    · rw [if_pos h, stripL, if_pos ⟨by omega, rfl⟩, stripL, if_neg (by omega)]
      have := strip_esc (if c = 0 then 1 else 0) p (by split <;> omega)
      by_cases hc : c = 0
      · simp [hc] at this ⊢; exact this
      · simp [hc] at this ⊢; exact this
    · rw [if_neg h, stripL, if_neg (by omega)]
      have := strip_esc (if c = 0 then z + 1 else 0) p (by split <;> omega)
      by_cases hc : c = 0
      · simp only [hc, if_true] at this ⊢
        rw [show min (min z 2 + 1) 2 = min (z + 1) 2 by omega, this]
      · simp only [hc, if_false] at this ⊢
        rw [show min (0 : Int) 2 = 0 by decide] at this
        rw [this]
theorem endsZero_cons (a b : Int) (l : List Int) : endsZero (a :: b :: l) = endsZero (b :: l) := by unfold endsZero; simp [List.getLast?_cons]
theorem endsZero_esc : ∀ (z : Int) (p : List Int), endsZero (escL z p) = endsZero p
  | _, [] => rfl
  | z, [c] => by
    rw [escL]
    split <;> simp [escL, endsZero]
  | z, c :: d :: p => by
    rw [escL]
    have hne : ∀ z', ∃ e r, escL z' (d :: p) = e :: r := fun z' => by rw [escL]; split <;> exact ⟨_, _, rfl⟩
    split
    · obtain ⟨e, r, h⟩ := hne (if c = 0 then 1 else 0)
      have := endsZero_esc (if c = 0 then 1 else 0) (d :: p)
      rw [h] at this ⊢
      rw [endsZero_cons, endsZero_cons, this, endsZero_cons]
    · obtain ⟨e, r, h⟩ := hne (if c = 0 then z + 1 else 0)
      have := endsZero_esc (if c = 0 then z + 1 else 0) (d :: p)
      rw [h] at this ⊢
      rw [endsZero_cons, this, endsZero_cons]
theorem bytes_esc : ∀ (z : Int) {p : List Int}, Bytes p → Bytes (escL z p)
  | _, [], _ => by simp [escL, Bytes]
  | z, c :: p, h => by
    have hc := h c (by simp)
    have hp : Bytes p := fun x hx => h x (by simp [hx])
    rw [escL]
    split
    · intro x hx
      rcases List.mem_cons.1 hx with rfl | hx
      · omega
      · rcases List.mem_cons.1 hx with rfl | hx
        · exact hc
        · exact bytes_esc _ hp x hx
    · intro x hx
      rcases List.mem_cons.1 hx with rfl | hx
      · exact hc
      · exact bytes_esc _ hp x hx
theorem strip_sub : ∀ (z : Int) (b : List Int), ∀ x ∈ stripL z b, x ∈ b
  | _, [], x, h => by simp [stripL] at h
  | z, c :: r, x, h => by
    rw [stripL] at h
    split at h
    · exact List.mem_cons_of_mem _ (strip_sub _ r x h)
    · rcases List.mem_cons.1 h with rfl | h
      · simp
      · exact List.mem_cons_of_mem _ (strip_sub _ r x h)
theorem strip_len : ∀ (z : Int) (b : List Int), (stripL z b).length ≤ b.length
  | _, [] => by simp [stripL]
  | z, c :: r => by
    rw [stripL]
    split
    · have := strip_len 0 r; simp; omega
    · have := strip_len (if c = 0 then min (z + 1) 2 else 0) r; simp; omega
/-- the program's Unescape and the reference's agree -/
theorem unescape_eq {b : List Int} (hb : Bytes b) : startcode_Unescape_S b = cutroomref03_Unescape_S b := by
  have hs : Bytes (stripL 0 b) := fun x hx => hb x (strip_sub 0 b x hx)
  unfold startcode_Unescape_S cutroomref03_Unescape_S escR
  cases hu : unL 0 b [] with
  | inr p =>
    obtain ⟨q, hq, he⟩ := esc_unL 0 b [] p hu
    obtain rfl : p = q := by simpa using hq
    have hst : stripL 0 b = p := by have := strip_esc 0 p (by decide); rw [he] at this; exact this
    rw [hst]
    have hez : endsZero b = endsZero p := by rw [← he]; exact endsZero_esc 0 p
    rw [hez]
    by_cases hz : endsZero p = true
    · simp [hz]
    · simp only [hz]
      simp [he, same_self]
  | inl x =>
    have : ¬ (endsZero (stripL 0 b) = false ∧ cutroomref02_SameBytes_S b (escL 0 (stripL 0 b)) = true) := by
      rintro ⟨_, h⟩
      have h1 := (same_iff hb (bytes_esc 0 hs)).1 h
      have h2 := unL_esc 0 (stripL 0 b) []
      rw [← h1, hu] at h2
      cases h2
    cases hz : endsZero (stripL 0 b) with
    | true => simp
    | false =>
      have h3 : cutroomref02_SameBytes_S b (escL 0 (stripL 0 b)) = false := by
        cases h : cutroomref02_SameBytes_S b (escL 0 (stripL 0 b)) with
        | false => rfl
        | true => exact absurd ⟨hz, h⟩ this
      simp [h3]

theorem startcode_Unescape_L7_ok : startcode_Unescape_L7_Obl startcode_Unescape_L7_pre startcode_Unescape_L7_mu startcode_Unescape_L7_S := by
  intro b b' n zeros i out hb _ _ _ _ _ ⟨he, hn, h0, h1, h2, h3, h4, h5⟩ R rec ex0 ex1 Good hr hx0 hx1
  subst he; subst hn
  have hm := okSl hb
  have hroom := room_eq
  unfold startcode_Unescape_L7_S at hr hx0 hx1
  unfold startcode_Unescape_L7_mu startcode_Unescape_L7_pre at hr
  refine gD (fun hlt => ?_) (fun hlt => ?_)
  · rw [dropAt h0 hlt 0] at hr hx0 hx1
    rw [w64 (x := i + 1) (by omega) (by omega), w64 (x := zeros + 1) (by omega) (by omega)]
    refine gC ⟨h0, hlt⟩ (fun _ => gL fun c hc => ?_)
    rw [← hc] at hr hx0 hx1
    have one : ¬ (2 ≤ zeros ∧ c < 4) → ∀ z', z' = (if c = 0 then zeros + 1 else 0) → Good (rec z' (i + 1) (out ++ [c])) := fun hn z' hz' =>
      hr _ _ _ ⟨rfl, rfl, by omega, by omega, by split at hz' <;> omega, by split at hz' <;> omega, by simp; omega, h5⟩ (by omega) (by rw [unL, if_neg hn, hz'])
    refine gD (fun z2 => gD (fun c4 => ?_) (fun c4 => gC (by simp; omega) fun _ => ?_)) (fun z2 => gC (by simp; omega) fun _ => ?_)
    · have bad : ¬ (c = 3 ∧ b.drop (i + 1).toNat ≠ [] ∧ (b.drop (i + 1).toNat).headD 0 < 4) → Good (ex0 3 [] out) := fun h =>
        hx0 _ _ _ (by rw [unL, if_pos ⟨z2, c4⟩, if_neg h])
      refine gN (fun h => bad fun h' => h h'.1) fun h3 => gD (fun h => bad fun h' => h'.2.1 (List.drop_eq_nil_of_le (by omega))) fun hl => gC (by omega) fun _ => ?_
      have hd : (b.drop (i + 1).toNat).headD 0 = b.getD (i + 1).toNat 0 := by rw [dropAt (by omega) (by omega) 0]; rfl
      refine gD (fun h => bad fun h' => by rw [hd] at h'; omega) fun h => hr _ _ _ ⟨rfl, rfl, by omega, by omega, by omega, by omega, by omega, h5⟩ (by omega) ?_
      rw [unL, if_pos ⟨z2, c4⟩, if_pos ⟨h3, by rw [dropAt (by omega) (by omega) 0]; simp, by rw [hd]; omega⟩]
    · exact gN (fun h => one (by omega) _ (by simp [h])) (fun h => one (by omega) _ (by simp [h]))
    · exact gN (fun h => one (by omega) _ (by simp [h])) (fun h => one (by omega) _ (by simp [h]))
  · exact hx1 _ (by rw [List.drop_eq_nil_of_le (by omega)]; simp [unL])
theorem unL_err : ∀ (z : Int) (b out : List Int) (y : Int × List Int × List Int), unL z b out = .inl y → y.1 = 3 ∧ y.2.1 = []
  | _, [], _, _, h => by simp [unL] at h
  | z, c :: r, out, y, h => by
    rw [unL] at h
    split at h
    · split at h
      · exact unL_err _ _ _ _ h
      · simp at h; subst h; simp
    · exact unL_err _ _ _ _ h
theorem startcode_Unescape_J4_good {R : Type} {Good : Option R → Prop} {k : Int → List Int → Option R} {b : List Int} (hp : startcode_Unescape_pre b) (hz : endsZero b = false)
    (hk : Good (k (startcode_Unescape_S b).1 (startcode_Unescape_S b).2)) : Good (startcode_Unescape_J4_T (fun x y _ => k x y) (fun x y => k x y) b) := by
  unfold startcode_Unescape_pre at hp
  refine gL fun n hn => gNeed ⟨rfl, hn, by omega, by omega, by omega, by omega, by simp, hp⟩ fun _ => gS (fun a ha => ?_) (fun a ha => ?_)
  · have ha' : unL 0 b [] = .inl a := by simpa [startcode_Unescape_L7_S] using ha
    obtain ⟨e1, e2⟩ := unL_err _ _ _ _ ha'
    unfold startcode_Unescape_S at hk
    rw [hz, ha'] at hk
    rw [e1, e2]
    exact hk
  · have ha' : unL 0 b [] = .inr a := by simpa [startcode_Unescape_L7_S] using ha
    unfold startcode_Unescape_S at hk
    rw [hz, ha'] at hk
    exact hk
theorem startcode_Unescape_ok : startcode_Unescape_Obl startcode_Unescape_pre startcode_Unescape_S := by
  intro b hb hp R k Good hk
  refine gL fun n hn => lastK (okSl hb) hn (fun h => ?_) (fun h => startcode_Unescape_J4_good hp h hk)
  unfold startcode_Unescape_S at hk
  rw [if_pos h] at hk; exact hk
theorem cutroomref03_Unescape_L4_ok : cutroomref03_Unescape_L4_Obl cutroomref03_Unescape_L4_pre cutroomref03_Unescape_L4_mu cutroomref03_Unescape_L4_S := by
  intro b zeros i out hb _ _ _ ⟨h0, h1, h2, h3, h4, h5⟩ R rec ex Good hr hx
  have hm := okSl hb
  have hroom := room_eq
  unfold cutroomref03_Unescape_L4_S at hr hx
  unfold cutroomref03_Unescape_L4_mu cutroomref03_Unescape_L4_pre at hr
  refine gD (fun hlt => ?_) (fun hlt => ?_)
  · rw [dropAt h0 hlt 0] at hr
    rw [w64 (x := i + 1) (by omega) (by omega), w64 (x := zeros + 1) (by omega) (by omega)]
    generalize b.getD i.toNat 0 = c at *
    have hc := And.intro h0 hlt
    have one : ¬ (zeros = 2 ∧ c = 3) → Good (if 0 ≤ i ∧ i < (b.length : Int) then lett c fun x => if 0 < 1 ∧ (out.length + [x].length) * 1 ≤ room then
        if 0 ≤ i ∧ i < (b.length : Int) then if (c == 0) = true then lett (zeros + 1) fun y => rec (if 2 < y then 2 else y) (i + 1) (out ++ [x]) else rec 0 (i + 1) (out ++ [x]) else none else none else none) := fun hn =>
      gC hc fun _ => gL fun x hx => gC (by simp; omega) fun _ => gC hc fun _ => gE (fun z => gL fun y hy => ?_) (fun z => ?_)
    · refine gE (fun z2 => gC hc fun _ => gE (fun c3 => ?_) fun h => one fun h' => h h'.2) fun h => one fun h' => h h'.1
      exact hr _ _ _ ⟨by omega, by omega, by omega, by omega, by omega, h5⟩ (by omega) (by rw [stripL, if_pos ⟨z2, c3⟩])
    · subst hx; subst hy
      refine hr _ _ _ ⟨by omega, by omega, by split <;> omega, by split <;> omega, by simp; omega, h5⟩ (by omega) ?_
      rw [stripL, if_neg hn, if_pos z, show (if 2 < zeros + 1 then 2 else zeros + 1) = min (zeros + 1) 2 by split <;> omega]
      simp
    · subst hx
      refine hr _ _ _ ⟨by omega, by omega, by omega, by omega, by simp; omega, h5⟩ (by omega) ?_
      rw [stripL, if_neg hn, if_neg z]
      simp
  · exact hx _ (by rw [List.drop_eq_nil_of_le (by omega)]; simp [stripL])
theorem cutroomref03_Unescape_ok : cutroomref03_Unescape_Obl cutroomref03_Unescape_pre cutroomref03_Unescape_S := by
  intro b hb hp R k Good hk
  unfold cutroomref03_Unescape_pre at hp
  refine gNeed ⟨by omega, by omega, by omega, by omega, by simp, by omega⟩ fun _ => gL fun o ho => ?_
  have ho : o = stripL 0 b := by rw [ho]; simp [cutroomref03_Unescape_L4_S]
  subst ho
  have hl := strip_len 0 b
  refine gNeed (by unfold cutroomref03_Escape_pre; omega) fun _ => gL fun r hr => ?_
  subst hr
  unfold cutroomref03_Unescape_S at hk
  unfold cutroomref03_Escape_S
  refine gN (fun h => by rw [if_pos h] at hk; exact hk) fun h => gNeed trivial fun _ => gL fun r hr => ?_
  rw [if_neg (fun h' => h' h)] at hk
  subst hr
  refine gNB (fun h' => ?_) (fun h' => ?_)
  · rw [h'] at hk; exact hk
  · rw [if_pos h'] at hk; exact hk
theorem cutroomlaw03_StartcodeEscape_ok : cutroomlaw03_StartcodeEscape_Obl cutroomlaw03_StartcodeEscape_pre cutroomlaw03_StartcodeEscape_S := by
  intro p hp _ R k Good hk
  refine gD (fun _ => hk) fun h => ?_
  have hl : p.length ≤ 2000 := by omega
  have hroom := room_eq
  refine gNeed (by unfold startcode_Escape_pre; omega) fun _ => gL fun a ha => gNeed (by unfold cutroomref03_Escape_pre; omega) fun _ => gL fun b hb => ?_
  unfold startcode_Escape_S at ha
  unfold cutroomref03_Escape_S at hb
  rw [← ha] at hb
  subst b
  refine gN (fun h => absurd rfl h) fun _ => gNeed trivial fun _ => gL fun r hr => ?_
  rw [same_self] at hr
  subst hr
  refine gNB (fun h => by cases h) fun _ => gN (fun _ => awake_pass hk) fun h0 => ?_
  have hz : endsZero p = false := by
    cases hz : endsZero p with
    | false => rfl
    | true => rw [ha, escR, if_pos hz] at h0; simp at h0
  have h2 : a.2 = escL 0 p := by rw [ha, escR, hz]; rfl
  rw [h2]
  have hlen := escL_len 0 p
  refine gNeed (by unfold startcode_Unescape_pre; omega) fun _ => gL fun q hq => awake_pass (gB (fun _ => ?_) (fun h => by cases h))
  have hq2 : q = (0, p) := by
    rw [hq]
    unfold startcode_Unescape_S
    rw [endsZero_esc, hz, unL_esc]
    simp
  subst hq2
  refine gE (fun _ => gNeed trivial fun _ => gL fun r hr => ?_) (fun h => absurd rfl h)
  rw [hr, same_self]
  exact hk
theorem cutroomlaw03_StartcodeEscape_law (p : List Int) (_ : okT (.sl (.int .u8)) p) : cutroomlaw03_StartcodeEscape_pre p ∧ cutroomlaw03_StartcodeEscape_S p = true := ⟨trivial, rfl⟩
theorem cutroomlaw03_StartcodeUnescape_ok : cutroomlaw03_StartcodeUnescape_Obl cutroomlaw03_StartcodeUnescape_pre cutroomlaw03_StartcodeUnescape_S := by
  intro b hb _ R k Good hk
  refine gD (fun _ => hk) fun h => ?_
  have hl : b.length ≤ 2000 := by omega
  have hroom := room_eq
  refine gNeed (by unfold startcode_Unescape_pre; omega) fun _ => gL fun p hp => gNeed (by unfold cutroomref03_Unescape_pre; omega) fun _ => gL fun q hq => ?_
  rw [← unescape_eq (okBytes hb), ← hp] at hq
  subst q
  refine gN (fun h => absurd rfl h) fun _ => gNeed trivial fun _ => gL fun r hr => ?_
  rw [same_self] at hr
  subst hr
  refine gNB (fun h => by cases h) fun _ => gN (fun _ => awake_pass hk) fun h0 => ?_
  have key : p.2.length ≤ b.length ∧ escR p.2 = (0, b) := by
    unfold startcode_Unescape_S at hp
    cases hz : endsZero b with
    | true => rw [hp, hz] at h0; simp at h0
    | false =>
      rw [hz] at hp
      cases hu : unL 0 b [] with
      | inl y => rw [hp, hu] at h0; simp at h0
      | inr q =>
        rw [hu] at hp
        obtain ⟨q', hq', he⟩ := esc_unL 0 b [] q hu
        obtain rfl : q = q' := by simpa using hq'
        have e : p.2 = q := by rw [hp]; rfl
        rw [e]
        have hz2 : endsZero q = false := by rw [← endsZero_esc 0 q, he]; exact hz
        refine ⟨?_, by unfold escR; rw [hz2, he]; rfl⟩
        have := strip_len 0 b
        have hst := strip_esc 0 q (by decide)
        rw [he] at hst
        rw [show stripL 0 b = q from hst] at this
        exact this
  refine gNeed (by unfold startcode_Escape_pre; omega) fun _ => gL fun c hc => awake_pass (gB (fun _ => ?_) (fun h => by cases h))
  unfold startcode_Escape_S at hc
  rw [key.2] at hc
  subst hc
  refine gE (fun _ => gNeed trivial fun _ => gL fun r hr => ?_) (fun h => absurd rfl h)
  rw [hr, same_self]
  exact hk
theorem cutroomlaw03_StartcodeUnescape_law (b : List Int) (_ : okT (.sl (.int .u8)) b) : cutroomlaw03_StartcodeUnescape_pre b ∧ cutroomlaw03_StartcodeUnescape_S b = true := ⟨trivial, rfl⟩

theorem cutroomlaw03_formed_L4_ok : cutroomlaw03_formed_L4_Obl cutroomlaw03_formed_L4_pre cutroomlaw03_formed_L4_mu cutroomlaw03_formed_L4_S := by
  intro l i hl _ h0 R rec ex0 ex1 Good hr hx0 hx1
  have hm := okSl hl
  have hroom := room_eq
  unfold cutroomlaw03_formed_L4_pre at h0 hr
  unfold cutroomlaw03_formed_L4_S at hr hx0 hx1
  unfold cutroomlaw03_formed_L4_mu at hr
  refine gD (fun hlt => ?_) (fun hlt => ?_)
  · rw [dropAt h0 hlt Z_api_Unit] at hr hx0 hx1
    rw [w64 (x := i + 1) (by omega) (by omega)]
    refine gC ⟨h0, hlt⟩ fun _ => gD (fun hb => hx0 _ (by
      have hb0 : okUnit (l.getD i.toNat Z_api_Unit) = false := by unfold okUnit; rw [decide_eq_false (by omega)]; rfl
      rw [List.all_cons, hb0]; rfl)) fun hs => gC ⟨h0, hlt⟩ fun _ => gL fun u hu => ?_
    rw [← hu] at hr hx0 hx1 hs
    refine gNeed (by unfold cutroomref03_Format_pre; omega) fun _ => gL fun r hrr => ?_
    unfold cutroomref03_Format_S at hrr
    refine gN (fun h => hx0 _ ?_) (fun h => hr _ (by omega) (by omega) ?_)
    · have hb0 : okUnit u = false := by unfold okUnit; rw [← hrr, decide_eq_false h, Bool.and_false]
      rw [List.all_cons, hb0]; rfl
    · have : okUnit u = true := by simp [okUnit, ← hrr, h]; omega
      rw [List.all_cons, this, Bool.true_and]
  · exact hx1 (by rw [List.drop_eq_nil_of_le (by omega)]; rfl)
theorem cutroomlaw03_formed_ok : cutroomlaw03_formed_Obl cutroomlaw03_formed_pre cutroomlaw03_formed_S := by
  intro l hl _ R k Good hk
  unfold cutroomlaw03_formed_S at hk
  refine gD (fun h => ?_) (fun h => ?_)
  · rw [decide_eq_false (by omega)] at hk; exact hk
  · rw [decide_eq_true (by omega), Bool.true_and] at hk
    refine gNeed (by unfold cutroomlaw03_formed_L4_pre; omega) fun _ => gS (fun a ha => ?_) (fun a ha => ?_) <;>
    · unfold cutroomlaw03_formed_L4_S at ha
      simp only [Int.toNat_zero, List.drop_zero] at ha
      split at ha
      · rename_i h2; rw [h2] at hk; cases ha; try exact hk
      · rename_i h2
        have h2 : l.all okUnit = false := by simpa using h2
        rw [h2] at hk; cases ha; try exact hk
theorem cleanL_drop {b : List Int} {i : Int} (h0 : 0 ≤ i) (h : i + 2 < b.length) :
    cleanL (b.drop i.toNat) = (!(b.getD i.toNat 0 == 0 && b.getD (i + 1).toNat 0 == 0 && decide (b.getD (i + 2).toNat 0 < 3)) && cleanL (b.drop (i + 1).toNat)) := by
  rw [dropAt h0 (by omega) 0, dropAt (i := i + 1) (by omega) (by omega) 0, dropAt (i := i + 1 + 1) (by omega) (by omega) 0, show i + 1 + 1 = i + 2 by omega, cleanL]
theorem cutroomlaw03_StartcodeClean_L7_ok : cutroomlaw03_StartcodeClean_L7_Obl cutroomlaw03_StartcodeClean_L7_pre cutroomlaw03_StartcodeClean_L7_mu cutroomlaw03_StartcodeClean_L7_S := by
  intro b i _ hb ⟨h0, h1, hbig⟩ R rec ex0 ex1 Good hr hx0 hx1
  have hm := okSl hb
  have hroom := room_eq
  unfold cutroomlaw03_StartcodeClean_L7_S at hr hx0 hx1
  unfold cutroomlaw03_StartcodeClean_L7_mu cutroomlaw03_StartcodeClean_L7_pre at hr
  refine gD (fun hlt => ?_) (fun hlt => ?_) <;> rw [w64 (x := i + 2) (by omega) (by omega)] at hlt
  · rw [cleanL_drop h0 hlt] at hr hx0
    rw [w64 (x := i + 1) (by omega) (by omega), w64 (x := i + 2) (by omega) (by omega)]
    have go : ¬ (b.getD i.toNat 0 = 0 ∧ b.getD (i + 1).toNat 0 = 0 ∧ b.getD (i + 2).toNat 0 < 3) → Good (rec (i + 1)) := fun hn =>
      hr _ ⟨by omega, by omega, hbig⟩ (by omega) (by
        have : (b.getD i.toNat 0 == 0 && b.getD (i + 1).toNat 0 == 0 && decide (b.getD (i + 2).toNat 0 < 3)) = false := by
          simp only [Bool.and_eq_false_iff, beq_eq_false_iff_ne, decide_eq_false_iff_not]
          omega
        rw [this]; simp)
    refine gC (by omega) fun _ => gE (fun e1 => gC (by omega) fun _ => gE (fun e2 => gC (by omega) fun _ => gD (fun e3 => hx0 _ ?_) fun h => go fun h' => h h'.2.2) fun h => go fun h' => h h'.2.1) fun h => go fun h' => h h'.1
    rw [e1, e2, decide_eq_true e3]; rfl
  · refine hx1 ?_
    have : (b.drop i.toNat).length ≤ 2 := by simp; omega
    rcases hd : b.drop i.toNat with _ | ⟨x, _ | ⟨y, _ | ⟨z, r⟩⟩⟩ <;> simp [hd, cleanL] at this ⊢
/-- no code is met, z zeros stand before -/
def scan : Int → List Int → Bool
  | _, [] => true
  | z, c :: r => (decide (z < 2) || decide (3 ≤ c)) && scan (if c = 0 then z + 1 else 0) r
theorem scan_esc : ∀ (z : Int) (p : List Int), scan z (escL z p) = true
  | _, [] => by simp [escL, scan]
  | z, c :: p => by
    rw [escL]
    split
    · rename_i h
      have := scan_esc (if c = 0 then 1 else 0) p
      simp [scan, this]
    · rename_i h
      have := scan_esc (if c = 0 then z + 1 else 0) p
      simp [scan, this]
      omega
theorem clean_of_scan : ∀ (l : List Int) (z : Int), 0 ≤ z → scan z l = true → cleanL l = true
  | [], _, _, _ => rfl
  | [_], _, _, _ => rfl
  | [_, _], _, _, _ => rfl
  | a :: b :: c :: r, z, hz, h => by
    have h1 : scan (if a = 0 then z + 1 else 0) (b :: c :: r) = true := by rw [scan] at h; simp at h; exact h.2
    have h2 := clean_of_scan (b :: c :: r) _ (by split <;> omega) h1
    rw [cleanL, h2, Bool.and_true]
    rw [scan] at h1
    simp only [Bool.and_eq_true] at h1
    have h3 := h1.2
    rw [scan] at h3
    simp only [Bool.and_eq_true, Bool.or_eq_true, decide_eq_true_eq] at h3
    by_cases ha : a = 0
    · by_cases hb : b = 0
      · simp only [ha, hb, if_true] at h3
        simp [ha, hb]; omega
      · simp [hb]
    · simp [ha]

theorem format_last {u : D_api_Unit} (h : (startcode_Format_S u).1 = 0) : (startcode_Format_S u).2 = [0, 0, 1, u.1] ++ escL 0 u.2.1 ∧ 1 ≤ u.1 ∧ endsZero (startcode_Format_S u).2 = false := by
  unfold startcode_Format_S at h ⊢
  by_cases h1 : u.1 < 1 ∨ 255 < u.1
  · rw [if_pos h1] at h; simp at h
  · rw [if_neg h1] at h ⊢
    by_cases h2 : endsZero u.2.1 = true
    · rw [if_pos h2] at h; simp at h
    · rw [if_neg h2]
      refine ⟨rfl, by omega, ?_⟩
      have h3 : endsZero u.2.1 = false := by simpa using h2
      cases hp : escL 0 u.2.1 with
      | nil => simp [endsZero]; omega
      | cons e r =>
        have := endsZero_esc 0 u.2.1
        rw [hp, h3] at this
        simp only [List.cons_append, List.nil_append]
        rw [endsZero_cons, endsZero_cons, endsZero_cons, endsZero_cons]
        exact this
theorem cutroomlaw03_StartcodeClean_ok : cutroomlaw03_StartcodeClean_Obl cutroomlaw03_StartcodeClean_pre cutroomlaw03_StartcodeClean_S := by
  intro u hu _ R k Good hk
  have hroom := room_eq
  refine gNeed trivial fun _ => gL fun f hf => gNB (fun _ => awake_pass hk) fun hft => ?_
  rw [hf] at hft
  have hok : u.2.1.length ≤ 100 ∧ (startcode_Format_S u).1 = 0 := by
    simpa [cutroomlaw03_formed_S, okUnit] using hft
  obtain ⟨hs, h1, hz⟩ := format_last hok.2
  have hlen := escL_len 0 u.2.1
  refine gNeed (by unfold startcode_Format_pre; omega) fun _ => gL fun a ha => ?_
  have ha1 : a.1 = 0 := by rw [ha]; exact hok.2
  have ha2 : a.2 = [0, 0, 1, u.1] ++ escL 0 u.2.1 := by rw [ha]; exact hs
  have ha3 : endsZero a.2 = false := by rw [ha]; exact hz
  have hal : a.2.length = 4 + (escL 0 u.2.1).length := by rw [ha2]; simp; omega
  refine gN (fun h => absurd ha1 h) fun _ => gD (fun h => by omega) fun _ => gL fun x hx => ?_
  have e : x = ((a.2.length - 1 : Nat) : Int) := by rw [hx, w64 (by omega) (by omega)]; omega
  rw [e, Int.toNat_natCast]
  refine gC (by omega) fun _ => gE (fun h => ?_) fun _ => ?_
  · rw [(last_endsZero (l := a.2) (by omega)).1 h] at ha3; cases ha3
  · refine gNeed ⟨by omega, by omega, by omega⟩ fun _ => gS (fun b hb => ?_) fun _ _ => awake_pass hk
    have hcl : cleanL (a.2.drop 1) = true := by
      rw [ha2]
      refine clean_of_scan _ 0 (by decide) ?_
      have := scan_esc 0 u.2.1
      simp [scan, show ¬ u.1 = 0 by omega, this]
    unfold cutroomlaw03_StartcodeClean_L7_S at hb
    rw [show (1 : Int).toNat = 1 from rfl, if_pos hcl] at hb
    cases hb
theorem cutroomlaw03_StartcodeClean_law (u : D_api_Unit) (_ : okT T_api_Unit u) : cutroomlaw03_StartcodeClean_pre u ∧ cutroomlaw03_StartcodeClean_S u = true := ⟨trivial, rfl⟩

theorem trimL_snoc (l : List Int) (c : Int) : trimL (l ++ [c]) = if c = 0 then trimL l else (l.length : Int) + 1 := by
  unfold trimL
  rw [tz_snoc]
  split <;> simp <;> omega
theorem trimL_nil : trimL [] = 0 := rfl
theorem tz_le (l : List Int) : tz l ≤ l.length := by
  unfold tz
  have := List.takeWhile_sublist (l := l.reverse) (· == 0)
  have := this.length_le
  simp at this
  omega
theorem trimL_bounds (l : List Int) : 0 ≤ trimL l ∧ trimL l ≤ l.length := by
  have := tz_le l
  have := tz_nonneg l
  unfold trimL
  omega
theorem cutL_snoc {b : List Int} {lo hi : Nat} (h1 : lo ≤ hi) (h2 : hi < b.length) : cutL b lo (hi + 1) = cutL b lo hi ++ [b.getD hi 0] := by
  unfold cutL
  rw [List.take_add_one, List.drop_append, List.length_take]
  simp only [List.getD, List.getElem?_eq_getElem h2, Option.toList_some, Option.getD_some]
  rw [show lo - min hi b.length = 0 by omega]
  rfl
theorem cutL_same (b : List Int) (lo : Nat) : cutL b lo lo = [] := by unfold cutL; rw [List.drop_eq_nil_of_le]; simp; omega
theorem cutL_zero (b : List Int) (hi : Nat) : cutL b 0 hi = b.take hi := by unfold cutL; simp
theorem startcode_trimmed_L2_ok : startcode_trimmed_L2_Obl startcode_trimmed_L2_pre startcode_trimmed_L2_mu startcode_trimmed_L2_S := by
  intro b n hb _ ⟨h0, h1⟩ R rec ex Good hr hx
  have hm := okSl hb
  unfold startcode_trimmed_L2_S at hr hx
  unfold startcode_trimmed_L2_mu startcode_trimmed_L2_pre at hr
  refine gD (fun hp => ?_) (fun hp => ?_)
  · rw [w64 (x := n - 1) (by omega) (by omega)]
    have e : b.take n.toNat = b.take (n - 1).toNat ++ [b.getD (n - 1).toNat 0] := by
      have := cutL_snoc (b := b) (lo := 0) (hi := (n - 1).toNat) (by omega) (by omega)
      rw [cutL_zero, cutL_zero, show (n - 1).toNat + 1 = n.toNat by omega] at this
      exact this
    rw [e, trimL_snoc] at hr hx
    refine gC (by omega) fun _ => gE (fun h => hr _ ⟨by omega, by omega⟩ (by omega) (by rw [if_pos h])) fun h => hx _ ?_
    rw [if_neg h]
    simp
    omega
  · have : n = 0 := by omega
    subst this
    exact hx _ rfl
theorem startcode_trimmed_ok : startcode_trimmed_Obl startcode_trimmed_pre startcode_trimmed_S := by
  intro b hb _ R k Good hk
  refine gL fun n hn => gNeed ⟨by omega, by omega⟩ fun _ => gL fun m hm => ?_
  subst hn; subst hm
  simpa [startcode_trimmed_L2_S, startcode_trimmed_S] using hk
theorem startcode_codes_L3_ok : startcode_codes_L3_Obl startcode_codes_L3_pre startcode_codes_L3_mu startcode_codes_L3_S := by
  intro b i l hb _ _ ⟨hs, h0, h1, h2⟩ R rec ex Good hr hx
  unfold startcode_codes_L3_S at hr hx
  unfold startcode_codes_L3_mu startcode_codes_L3_pre at hr
  have hroom := room_eq
  unfold small at hs
  refine gD (fun hlt => ?_) (fun hlt => ?_) <;> rw [w64 (x := i + 4) (by omega) (by omega)] at hlt
  · rw [w64 (x := i + 1) (by omega) (by omega), w64 (x := i + 2) (by omega) (by omega), w64 (x := i + 3) (by omega) (by omega), w64 (x := i + 4) (by omega) (by omega)]
    rw [codesAt, if_pos hlt] at hr
    have skip : isCode b i = false → Good (rec (i + 1) l) := fun h => hr _ _ ⟨hs, by omega, by omega, by omega⟩ (by omega) (by rw [h]; rfl)
    refine gC (by omega) fun _ => gE (fun e0 => ?_) fun h => skip (by unfold isCode; rw [beq_eq_false_iff_ne.2 h]; rfl)
    refine gC (by omega) fun _ => gE (fun e1 => ?_) fun h => skip (by unfold isCode; rw [beq_eq_false_iff_ne.2 h]; simp)
    refine gC (by omega) fun _ => gE (fun e2 => ?_) fun h => skip (by unfold isCode; rw [beq_eq_false_iff_ne.2 h]; simp)
    refine gC (by omega) fun _ => gD (fun e3 => ?_) fun h => skip (by unfold isCode; rw [decide_eq_false (by omega)]; simp)
    have hc : isCode b i = true := by unfold isCode; rw [e0, e1, e2, decide_eq_true (by omega)]; rfl
    refine gC (by simp; omega) fun _ => hr _ _ ⟨hs, by omega, by omega, by simp; omega⟩ (by omega) (by rw [hc]; simp)
  · refine hx _ ?_
    rw [codesAt, if_neg (by omega), List.append_nil]
theorem startcode_codes_ok : startcode_codes_Obl startcode_codes_pre startcode_codes_S := by
  intro b hb hp R k Good hk
  refine gNeed ⟨hp, by omega, by omega, by simp⟩ fun _ => gL fun m hm => ?_
  subst hm
  simpa [startcode_codes_L3_S, startcode_codes_S] using hk
theorem chainF_mono {n : Int} : ∀ {l : List Int} {lo lo' : Int}, lo' ≤ lo → chainF n lo l → chainF n lo' l
  | [], _, _, _, _ => trivial
  | _ :: _, _, _, h, ⟨h1, h2, h3⟩ => ⟨by omega, h2, h3⟩
theorem codes_chain (b : List Int) : ∀ (m : Nat) (i : Int), (b.length - i).toNat ≤ m → 0 ≤ i → i ≤ b.length → chainF b.length i (seqC b i) := by
  intro m
  induction m with
  | zero =>
    intro i hm h0 h1
    unfold seqC
    rw [codesAt, if_neg (by omega)]
    exact ⟨by omega, by omega, trivial⟩
  | succ m ih =>
    intro i hm h0 h1
    unfold seqC
    rw [codesAt]
    by_cases h4 : i + 4 ≤ b.length
    · rw [if_pos h4]
      split
      · exact ⟨by omega, by omega, ih (i + 4) (by omega) (by omega) (by omega)⟩
      · exact chainF_mono (by omega) (ih (i + 1) (by omega) (by omega) (by omega))
    · rw [if_neg h4]
      exact ⟨by omega, by omega, trivial⟩
theorem chain_len {n : Int} : ∀ {l : List Int} {lo : Int}, chainF n lo l → l ≠ [] → 4 * ((l.length : Int) - 1) ≤ n - lo
  | [_], _, ⟨h1, h2, _⟩, _ => by simp; omega
  | a :: c :: r, lo, ⟨h1, h2, h3⟩, _ => by
    have := chain_len h3 (by simp)
    simp at this ⊢
    omega
theorem seqC_len {b : List Int} : ((seqC b 0).length : Int) ≤ b.length + 1 := by
  have := chain_len (codes_chain b _ 0 (Nat.le_refl _) (by omega) (by omega)) (by unfold seqC; simp)
  omega
theorem codes_next (b : List Int) : ∀ (m : Nat) (i : Int), (b.length - i).toNat ≤ m → 0 ≤ i →
    (nextC b i = b.length ∧ codesAt b i = []) ∨ (i ≤ nextC b i ∧ nextC b i + 4 ≤ b.length ∧ isCode b (nextC b i) = true ∧ codesAt b i = nextC b i :: codesAt b (nextC b i + 4)) := by
  intro m
  induction m with
  | zero =>
    intro i hm h0
    rw [nextC, codesAt, if_neg (by omega), if_neg (by omega)]
    exact .inl ⟨rfl, rfl⟩
  | succ m ih =>
    intro i hm h0
    rw [nextC, codesAt]
    by_cases h4 : i + 4 ≤ b.length
    · rw [if_pos h4, if_pos h4]
      cases hc : isCode b i with
      | true => exact .inr ⟨by simp, by simpa using h4, by simpa using hc, by simp⟩
      | false =>
        rcases ih (i + 1) (by omega) (by omega) with h | ⟨h1, h2, h3, h5⟩
        · exact .inl (by simpa using h)
        · exact .inr ⟨by simp; omega, by simpa using h2, by simpa using h3, by simpa using h5⟩
    · rw [if_neg h4, if_neg h4]
      exact .inl ⟨rfl, rfl⟩
theorem seqC_at {b : List Int} {i : Int} (h0 : 0 ≤ i) : seqC b i = seqAt b (nextC b i) := by
  unfold seqC seqAt
  rcases codes_next b _ i (Nat.le_refl _) h0 with ⟨h1, h2⟩ | ⟨h1, h2, h3, h4⟩
  · rw [h1, h2, if_neg (by omega)]; rfl
  · rw [if_pos (by omega), h4]; rfl
theorem seqC_cons {b : List Int} {i : Int} (h0 : 0 ≤ i) : ∃ r, seqC b i = nextC b i :: r := by
  rw [seqC_at h0]
  unfold seqAt
  split
  · exact ⟨_, rfl⟩
  · rename_i h
    rcases codes_next b _ i (Nat.le_refl _) h0 with ⟨h1, h2⟩ | ⟨h1, h2, h3, h4⟩
    · exact ⟨[], by rw [h1]⟩
    · omega
theorem next_le {b : List Int} {i : Int} (h0 : 0 ≤ i) : 0 ≤ nextC b i ∧ (nextC b i = b.length ∨ nextC b i + 4 ≤ b.length) := by
  rcases codes_next b _ i (Nat.le_refl _) h0 with ⟨h1, h2⟩ | ⟨h1, h2, h3, h4⟩ <;> omega
theorem goS_step (b : List Int) (a n : Int) (r : List Int) : goS b (a :: n :: r) = (match one b a n with
    | .inl f => (f :: (goS b (n :: r)).1, (goS b (n :: r)).2)
    | .inr d => ((goS b (n :: r)).1, d :: (goS b (n :: r)).2)) := by rw [goS] <;> (cases one b a n <;> rfl)
theorem wbyte {b : List Int} (hb : okT (.sl (.int .u8)) b) (i : Int) : wi64 (b.getD i.toNat 0) = b.getD i.toNat 0 := by
  by_cases h : i.toNat < b.length
  · have := okByte (hb.2 _ (List.getElem_mem h))
    rw [show b.getD i.toNat 0 = b[i.toNat] by simp [List.getD, List.getElem?_eq_getElem h]]
    exact w64 (by omega) (by omega)
  · rw [show b.getD i.toNat 0 = 0 by simp [List.getD, List.getElem?_eq_none (Nat.le_of_not_lt h)]]
    decide
theorem cut_len {b : List Int} {lo hi : Nat} (h : hi ≤ b.length) : (cutL b lo hi).length = hi - lo := by unfold cutL; simp; omega
theorem startcode_Split_L7_ok : startcode_Split_L7_Obl startcode_Split_L7_pre startcode_Split_L7_mu startcode_Split_L7_S := by
  intro b xOff xLen n l i found defects hb _ _ _ _ _ ⟨hs, e1, e2, e3, h0, h1, h2, h3, h4, lo, hlo, hch⟩ R rec ex Good hr hx
  subst e1; subst e3
  unfold startcode_Split_L7_S at hr hx
  unfold startcode_Split_L7_mu startcode_Split_L7_pre at hr
  have hroom := room_eq
  have hs' : (b.length : Int) ≤ 10000000 := hs
  refine gD (fun hlt => ?_) (fun hlt => ?_)
  · have d1 := dropAt (l := l) h0 (by omega) 0
    have d2 := dropAt (l := l) (i := i + 1) (by omega) (by omega) 0
    rw [d1, d2] at hch
    rw [d1, d2, goS_step, ← d2] at hr
    rw [w64 (x := i + 1) (by omega) (by omega)]
    refine gC (by omega) fun _ => gL fun a ha => gC (by omega) fun _ => gL fun c hc => ?_
    rw [Nat.zero_add] at ha
    rw [← ha, ← hc] at hch hr
    obtain ⟨c1, c2, c3, c4, c5⟩ := hch
    rw [w64 (x := a + 4) (by omega) (by omega)]
    refine gC (by omega) fun _ => gC (by omega) fun _ => gC (by omega) fun _ => gL fun z hz => gNeed trivial fun _ => gL fun t ht => gL fun to hto => ?_
    unfold startcode_trimmed_S at ht
    have hzl : z.length = c.toNat - (a + 4).toNat := by rw [hz]; exact cut_len (by omega)
    have htb := trimL_bounds z
    rw [← ht] at htb
    rw [w64 (by omega) (by omega)] at hto
    refine gC (by omega) fun _ => gC (by omega) fun _ => gC (by omega) fun _ => gL fun y hy => ?_
    have hyl : y.length = to.toNat - (a + 4).toNat := by rw [hy]; exact cut_len (by omega)
    refine gNeed (by unfold startcode_Unescape_pre; omega) fun _ => gL fun p hp => ?_
    have hone : one b a c = if p.1 ≠ 0 then .inr (a, to, ()) else .inl ((b.getD (a + 3).toNat 0, p.2, ()), a, to, c, ()) := by
      unfold one
      simp only []
      rw [← hz, ← ht, ← hto, ← hy, ← hp]
    rw [hone] at hr
    have hch' : chainF b.length (a + 4) (l.drop (i + 1).toNat) := by rw [d2, ← hc]; exact ⟨c3, c4, c5⟩
    refine gN (fun hp0 => gL fun x hx' => gC (by simp; omega) fun _ => ?_) fun hp0 => ?_
    · rw [if_pos hp0] at hr
      refine hr _ _ _ ⟨hs, rfl, e2, rfl, by omega, by omega, h2, by omega, by simp; omega, a + 4, by omega, hch'⟩ (by omega) ?_
      rw [hx']; simp
    · rw [if_neg (fun h => h hp0)] at hr
      rw [w64 (x := a + 3) (by omega) (by omega), wbyte hb]
      refine gC (by omega) fun _ => gL fun u hu => gC (by simp; omega) fun _ => ?_
      refine hr _ _ _ ⟨hs, rfl, e2, rfl, by omega, by omega, h2, by simp; omega, by omega, a + 4, by omega, hch'⟩ (by omega) ?_
      rw [hu]; simp
  · have : (l.drop i.toNat).length ≤ 1 := by simp; omega
    refine hx _ _ ?_
    rcases hd : l.drop i.toNat with _ | ⟨x, _ | ⟨y, r⟩⟩ <;> simp [hd, goS] at this ⊢
theorem startcode_Split_J6_good {R : Type} {Good : Option R → Prop} {k : List D_startcode_Found → List D_startcode_Defect → Option R} {b : List Int} {d : List D_startcode_Defect} (hs : small b) (hd : d.length ≤ 1)
    (hk : Good (k (goS b (seqC b 0)).1 (d ++ (goS b (seqC b 0)).2))) : Good (startcode_Split_J6_T k b [] d (seqC b 0)) := by
  have hl := seqC_len (b := b)
  have hl1 : 1 ≤ (seqC b 0).length := by unfold seqC; simp
  have hs' : (b.length : Int) ≤ 10000000 := hs
  refine gL fun x hx => ?_
  rw [w64 (by omega) (by omega)] at hx
  refine gC (by omega) fun _ => gL fun y hy => gNeed ⟨hs, rfl, by omega, by omega, by omega, by omega, by omega, by simp, by omega, 0, by omega, ?_⟩ fun _ => gL fun r hr => ?_
  · exact codes_chain b _ 0 (Nat.le_refl _) (by omega) (by omega)
  · subst hr
    simpa [startcode_Split_L7_S] using hk
theorem startcode_Split_ok : startcode_Split_Obl startcode_Split_pre startcode_Split_S := by
  intro b hb hp R k Good hk
  have hs' : (b.length : Int) ≤ 10000000 := hp
  have hroom := room_eq
  refine gNeed hp fun _ => gL fun o ho => gL fun n hn => ?_
  subst hn
  have hq : o ++ [(b.length : Int)] = seqC b 0 := by rw [ho]; rfl
  have hl := seqC_len (b := b)
  have hl2 : (seqC b 0).length = o.length + 1 := by rw [← hq]; simp
  rw [hq]
  obtain ⟨r, hr⟩ := seqC_cons (b := b) (i := 0) (by omega)
  have hn := next_le (b := b) (i := 0) (by omega)
  have hg : (seqC b 0).getD (0 : Int).toNat 0 = nextC b 0 := by rw [hr]; rfl
  rw [hg]
  unfold startcode_Split_S splitS at hk
  refine gC (by simp; omega) fun _ => gC (by omega) fun _ => gL fun x hx => gC (by omega) fun _ => gL fun y hy => gC (by omega) fun _ => gC (by omega) fun _ => gL fun z hz => gNeed trivial fun _ => gL fun t ht => ?_
  subst hx
  unfold startcode_trimmed_S at ht
  rw [hz] at ht
  rw [← ht] at hk
  refine gD (fun h => ?_) fun h => ?_
  · rw [if_pos (by omega)] at hk
    refine gC (by omega) fun _ => gL fun d hd => gC (by simp; omega) fun _ => startcode_Split_J6_good hp (by simp) ?_
    rw [hd]; exact hk
  · rw [if_neg (by omega)] at hk
    exact startcode_Split_J6_good hp (by simp) hk

theorem cutroomref03_next_L1_ok : cutroomref03_next_L1_Obl cutroomref03_next_L1_pre cutroomref03_next_L1_mu cutroomref03_next_L1_S := by
  intro b i hb _ ⟨hs, h0, h1⟩ R rec ex0 ex1 Good hr hx0 hx1
  have hs' : (b.length : Int) ≤ 10000000 := hs
  unfold cutroomref03_next_L1_S at hr hx0 hx1
  unfold cutroomref03_next_L1_mu cutroomref03_next_L1_pre at hr
  refine gD (fun hlt => ?_) (fun hlt => ?_) <;> rw [w64 (x := i + 3) (by omega) (by omega)] at hlt
  · rw [w64 (x := i + 1) (by omega) (by omega), w64 (x := i + 2) (by omega) (by omega), w64 (x := i + 3) (by omega) (by omega)]
    have e : nextC b i = if isCode b i = true then i else nextC b (i + 1) := by rw [nextC, if_pos (by omega)]
    have skip : isCode b i = false → Good (rec (i + 1)) := fun h => hr _ ⟨hs, by omega, by omega⟩ (by omega) (by rw [e, h]; rfl)
    refine gC (by omega) fun _ => gE (fun e0 => ?_) fun h => skip (by unfold isCode; rw [beq_eq_false_iff_ne.2 h]; rfl)
    refine gC (by omega) fun _ => gE (fun e1 => ?_) fun h => skip (by unfold isCode; rw [beq_eq_false_iff_ne.2 h]; simp)
    refine gC (by omega) fun _ => gE (fun e2 => ?_) fun h => skip (by unfold isCode; rw [beq_eq_false_iff_ne.2 h]; simp)
    have hpos : 0 ≤ b.getD (i + 3).toNat 0 := by
      have hlt' : (i + 3).toNat < b.length := by omega
      rw [show b.getD (i + 3).toNat 0 = b[(i + 3).toNat] by simp [List.getD, List.getElem?_eq_getElem hlt']]
      exact (okByte (hb.2 _ (List.getElem_mem hlt'))).1
    refine gC (by omega) fun _ => gN (fun e3 => ?_) fun h => skip (by unfold isCode; rw [decide_eq_false (by omega)]; simp)
    have hc : isCode b i = true := by unfold isCode; rw [e0, e1, e2, decide_eq_true (by omega)]; rfl
    exact hx0 _ (by rw [e, if_pos hc, if_pos (by omega)])
  · exact hx1 (by rw [show nextC b i = b.length by rw [nextC, if_neg (by omega)], if_neg (by omega)])
theorem cutroomref03_next_ok : cutroomref03_next_Obl cutroomref03_next_pre cutroomref03_next_S := by
  intro b i _ _ hp R k Good hk
  unfold cutroomref03_next_S at hk
  have hn := next_le (b := b) (i := i) hp.2.1
  refine gNeed hp fun _ => gS (fun a ha => ?_) (fun a ha => ?_) <;> unfold cutroomref03_next_L1_S at ha <;> split at ha <;> cases ha
  · exact hk
  · rw [show nextC b i = b.length by omega] at hk; exact hk
theorem cutroomref03_clean_L2_ok : cutroomref03_clean_L2_Obl cutroomref03_clean_L2_pre cutroomref03_clean_L2_mu cutroomref03_clean_L2_S := by
  intro b i hb _ h0 R rec ex0 ex1 Good hr hx0 hx1
  have hm := okSl hb
  unfold cutroomref03_clean_L2_S at hr hx0 hx1
  unfold cutroomref03_clean_L2_mu cutroomref03_clean_L2_pre at hr
  unfold cutroomref03_clean_L2_pre at h0
  refine gD (fun hlt => ?_) (fun hlt => ?_)
  · rw [w64 (x := i + 1) (by omega) (by omega)]
    rw [dropAt h0 hlt 0, List.all_cons] at hr hx0
    refine gC (by omega) fun _ => gN (fun h => hx0 _ (by rw [beq_eq_false_iff_ne.2 h]; rfl)) fun h => hr _ (by omega) (by omega) (by rw [h]; rfl)
  · exact hx1 (by rw [List.drop_eq_nil_of_le (by omega)]; rfl)
theorem cutroomref03_clean_ok : cutroomref03_clean_Obl cutroomref03_clean_pre cutroomref03_clean_S := by
  intro b _ _ R k Good hk
  unfold cutroomref03_clean_S at hk
  refine gNeed (by unfold cutroomref03_clean_L2_pre; omega) fun _ => gS (fun a ha => ?_) (fun a ha => ?_) <;> unfold cutroomref03_clean_L2_S at ha <;> rw [Int.toNat_zero, List.drop_zero] at ha <;> split at ha <;> cases ha
  · rename_i h; rw [show b.all (· == 0) = false by simpa using h] at hk; exact hk
  · rename_i h; rw [h] at hk; exact hk
theorem trim_clean : ∀ (l : List Int), 0 < trimL l ↔ l.all (· == 0) = false := by
  intro l
  have key : ∀ (m : Nat) (l : List Int), l.length = m → (0 < trimL l ↔ l.all (· == 0) = false) := by
    intro m
    induction m with
    | zero => intro l hl; obtain rfl := List.length_eq_zero_iff.1 hl; simp [trimL_nil]
    | succ m ih =>
      intro l hl
      obtain ⟨p, c, rfl⟩ : ∃ p c, l = p ++ [c] := ⟨l.dropLast, l.getLast (by intro e; simp [e] at hl), (List.dropLast_concat_getLast _).symm⟩
      simp at hl
      rw [trimL_snoc, List.all_append]
      by_cases hc : c = 0
      · rw [if_pos hc, ih p hl]; simp [hc]
      · rw [if_neg hc]; simp [hc]
  exact key _ l rfl
theorem cutroomref03_Split_L9_ok : cutroomref03_Split_L9_Obl cutroomref03_Split_L9_pre cutroomref03_Split_L9_mu cutroomref03_Split_L9_S := by
  intro b a out bad f hb _ _ _ _ ⟨hs, h0, h1, h2⟩ R rec ex Good hr hx
  have hs' : (b.length : Int) ≤ 10000000 := hs
  unfold cutroomref03_Split_L9_S at hr hx
  unfold cutroomref03_Split_L9_mu cutroomref03_Split_L9_pre at hr
  rw [cutroomref03_Split_L9_T]
  rw [w64 (x := a + 4) (by omega) (by omega)]
  refine gD (fun hgt => ?_) (fun hle => ?_)
  · rw [w64 (x := f.2.2.1 - 1) (by omega) (by omega)]
    have e := cutL_snoc (b := b) (lo := (a + 4).toNat) (hi := (f.2.2.1 - 1).toNat) (by omega) (by omega)
    rw [show (f.2.2.1 - 1).toNat + 1 = f.2.2.1.toNat by omega] at e
    have hlen := cut_len (b := b) (lo := (a + 4).toNat) (hi := (f.2.2.1 - 1).toNat) (by omega)
    rw [e, trimL_snoc] at hr hx
    refine gL fun x hx' => ?_
    subst hx'
    refine gC (by omega) fun _ => gE (fun h => hr _ ⟨hs, by omega, by simp only []; omega, by simp only []; omega⟩ (by simp only []; omega) (by rw [if_pos h])) fun h => hx _ ?_
    rw [if_neg h, hlen, show a + 4 + ((((f.2.2.1 - 1).toNat - (a + 4).toNat : Nat) : Int) + 1) = f.2.2.1 by omega]
  · refine hx _ ?_
    rw [show f.2.2.1 = a + 4 by omega, cutL_same, trimL_nil, Int.add_zero]
    rw [show a + 4 = f.2.2.1 by omega]
theorem cutroomref03_Split_L6_ok : cutroomref03_Split_L6_Obl cutroomref03_Split_L6_pre cutroomref03_Split_L6_mu cutroomref03_Split_L6_S := by
  intro b a out bad hb _ _ _ ⟨hs, h0, h1, h2, h3⟩ R rec ex Good hr hx
  have hs' : (b.length : Int) ≤ 10000000 := hs
  have hroom := room_eq
  unfold cutroomref03_Split_L6_S at hr hx
  unfold cutroomref03_Split_L6_mu cutroomref03_Split_L6_pre at hr
  refine gD (fun hlt => ?_) (fun hge => ?_)
  · rw [w64 (x := a + 4) (by omega) (by omega), w64 (x := a + 3) (by omega) (by omega)]
    have hn := next_le (b := b) (i := a + 4) (by omega)
    have hn2 : a + 4 ≤ nextC b (a + 4) := by rcases codes_next b _ (a + 4) (Nat.le_refl _) (by omega) with ⟨h, _⟩ | ⟨h, _⟩ <;> omega
    have hsq : seqAt b a = a :: seqC b (a + 4) := by unfold seqAt; rw [if_pos hlt]
    obtain ⟨r, hrr⟩ := seqC_cons (b := b) (i := a + 4) (by omega)
    have hsq2 : seqAt b (nextC b (a + 4)) = nextC b (a + 4) :: r := by rw [← seqC_at (by omega)]; exact hrr
    rw [hsq, hrr, goS_step] at hr
    refine gNeed ⟨hs, by omega, by omega⟩ fun _ => gL fun c hc => gL fun f hf => gL fun f2 hf2 => ?_
    unfold cutroomref03_next_S at hc
    rw [← hc] at hr hsq2 hn hn2
    have hf2' : f2 = (Z_api_Unit, (a, (c, (c, ())))) := by rw [hf2, hf]
    refine gNeed ⟨hs, h0, by rw [hf2']; exact hn2, by rw [hf2']; simp only []; omega⟩ fun _ => gL fun g hg => ?_
    unfold cutroomref03_Split_L9_S at hg
    rw [hf2'] at hg
    simp only [] at hg
    have htb := trimL_bounds (cutL b (a + 4).toNat c.toNat)
    have hzl := cut_len (b := b) (lo := (a + 4).toNat) (hi := c.toNat) (by omega)
    have hone := hr
    generalize hto : a + 4 + trimL (cutL b (a + 4).toNat c.toNat) = to at *
    have hg1 : g.2.2.1 = to := by rw [hg]
    have hg2 : g.2.1 = a := by rw [hg]
    have hg3 : g.2.2.2.1 = c := by rw [hg]
    rw [hg1, hg2, hg3]
    refine gC (by omega) fun _ => gC (by omega) fun _ => gL fun y hy => ?_
    have hyl : y.length = to.toNat - (a + 4).toNat := by rw [hy]; exact cut_len (by omega)
    refine gNeed (by unfold cutroomref03_Unescape_pre; omega) fun _ => gL fun p hp => ?_
    have hyb : Bytes y := fun x hx => by rw [hy] at hx; exact okBytes hb x (List.mem_of_mem_take (List.mem_of_mem_drop hx))
    rw [← unescape_eq hyb] at hp
    have h1e : one b a c = if p.1 ≠ 0 then .inr (a, to, ()) else .inl ((b.getD (a + 3).toNat 0, p.2, ()), a, to, c, ()) := by
      unfold one
      simp only []
      rw [hto, ← hy, ← hp]
    rw [h1e] at hr
    refine gE (fun hp0 => ?_) fun hp0 => gL fun x hx' => gC (by simp; omega) fun _ => ?_
    · rw [if_neg (fun h => h hp0)] at hr
      rw [wbyte hb]
      refine gC (by omega) fun _ => gL fun u hu => gC (by simp; omega) fun _ => ?_
      refine hr _ _ _ ⟨hs, by omega, by omega, by simp; omega, by omega⟩ (by omega) ?_
      rw [hu, hsq2]; simp
    · rw [if_pos hp0] at hr
      refine hr _ _ _ ⟨hs, by omega, by omega, by omega, by simp; omega⟩ (by omega) ?_
      rw [hx', hsq2]; simp
  · refine hx _ _ ?_
    rw [seqAt, if_neg hge]
    simp [goS]
theorem cutroomref03_Split_J6_good {R : Type} {Good : Option R → Prop} {k : List D_startcode_Found → List D_startcode_Defect → Option R} {b : List Int} {d : List D_startcode_Defect} (hs : small b) (hd : d.length ≤ 1)
    (hk : Good (k (goS b (seqC b 0)).1 (d ++ (goS b (seqC b 0)).2))) : Good (cutroomref03_Split_J6_T k b (nextC b 0) [] d) := by
  have hn := next_le (b := b) (i := 0) (by omega)
  refine gNeed ⟨hs, by omega, by omega, by simp; omega, by omega⟩ fun _ => gL fun r hr => ?_
  subst hr
  unfold cutroomref03_Split_L6_S
  rw [← seqC_at (by omega)]
  simpa using hk
theorem cutroomref03_Split_ok : cutroomref03_Split_Obl cutroomref03_Split_pre cutroomref03_Split_S := by
  intro b hb hp R k Good hk
  have hs' : (b.length : Int) ≤ 10000000 := hp
  have hroom := room_eq
  have hn := next_le (b := b) (i := 0) (by omega)
  unfold cutroomref03_Split_S splitS at hk
  refine gNeed ⟨hp, by omega, by omega⟩ fun _ => gL fun c hc => ?_
  unfold cutroomref03_next_S at hc
  subst hc
  refine gC (by omega) fun _ => gL fun z hz => gNeed trivial fun _ => gL fun t ht => ?_
  unfold cutroomref03_clean_S at ht
  rw [← hz] at hk
  refine gNB (fun h => ?_) fun h => ?_
  · rw [if_pos ((trim_clean z).2 (by rw [← ht]; exact h))] at hk
    exact gC (by simp; omega) fun _ => cutroomref03_Split_J6_good hp (by simp) hk
  · rw [if_neg (fun h' => by have := (trim_clean z).1 h'; rw [← ht, h] at this; cases this)] at hk
    exact cutroomref03_Split_J6_good hp (by simp) hk
theorem cutroomref03_SameUnit_ok : cutroomref03_SameUnit_Obl cutroomref03_SameUnit_pre cutroomref03_SameUnit_S := by
  intro a b _ _ _ R k Good hk
  unfold cutroomref03_SameUnit_S at hk
  refine gE (fun h => gNeed trivial fun _ => gL fun r hr => ?_) fun h => ?_
  · rw [h] at hk; rw [hr]; simpa using hk
  · rw [beq_eq_false_iff_ne.2 h] at hk; exact hk
theorem cutroomlaw03_same_ok : cutroomlaw03_same_Obl cutroomlaw03_same_pre cutroomlaw03_same_S := by
  intro a b _ _ _ R k Good hk
  unfold cutroomlaw03_same_S at hk
  refine gE (fun h1 => gE (fun h2 => gE (fun h3 => gNeed trivial fun _ => gL fun r hr => ?_) fun h => ?_) fun h => ?_) fun h => ?_
  · rw [h1, h2, h3] at hk; rw [hr]; simpa using hk
  · rw [beq_eq_false_iff_ne.2 h, Bool.and_false] at hk; exact hk
  · rw [beq_eq_false_iff_ne.2 h, Bool.and_false] at hk; exact hk
  · rw [beq_eq_false_iff_ne.2 h] at hk; exact hk
theorem same_refl (a : D_startcode_Found) : cutroomlaw03_same_S a a = true := by
  unfold cutroomlaw03_same_S cutroomref03_SameUnit_S
  rw [same_self]
  simp
theorem cutroomlaw03_StartcodeSplit_L8_ok : cutroomlaw03_StartcodeSplit_L8_Obl cutroomlaw03_StartcodeSplit_L8_pre cutroomlaw03_StartcodeSplit_L8_mu cutroomlaw03_StartcodeSplit_L8_S := by
  intro l bad m worse i _ hl _ _ _ ⟨he, h0⟩ R rec ex0 ex1 Good hr hx0 hx1
  subst he
  have hm := okSl hl
  unfold cutroomlaw03_StartcodeSplit_L8_mu cutroomlaw03_StartcodeSplit_L8_pre at hr
  refine gD (fun hlt => ?_) fun _ => hx1 rfl
  refine gC (by omega) fun _ => gL fun x hx => gC (by omega) fun _ => gL fun y hy => gNeed trivial fun _ => gL fun r hrr => ?_
  rw [← hx] at hy
  rw [hy, same_refl] at hrr
  subst hrr
  rw [w64 (by omega) (by omega)]
  exact gNB (fun h => by cases h) fun _ => hr _ ⟨rfl, by omega⟩ (by omega) rfl
theorem cutroomlaw03_StartcodeSplit_L13_ok : cutroomlaw03_StartcodeSplit_L13_Obl cutroomlaw03_StartcodeSplit_L13_pre cutroomlaw03_StartcodeSplit_L13_mu cutroomlaw03_StartcodeSplit_L13_S := by
  intro bad worse i _ hl _ ⟨he, h0⟩ R rec ex0 ex1 Good hr hx0 hx1
  subst he
  have hm := okSl hl
  unfold cutroomlaw03_StartcodeSplit_L13_mu cutroomlaw03_StartcodeSplit_L13_pre at hr
  refine gD (fun hlt => ?_) fun _ => hx1 rfl
  rw [w64 (by omega) (by omega)]
  exact gC (by omega) fun _ => gC (by omega) fun _ => gN (fun h => absurd rfl h) fun _ => gC (by omega) fun _ => gC (by omega) fun _ => gN (fun h => absurd rfl h) fun _ => hr _ ⟨rfl, by omega⟩ (by omega) rfl
theorem cutroomlaw03_StartcodeSplit_ok : cutroomlaw03_StartcodeSplit_Obl cutroomlaw03_StartcodeSplit_pre cutroomlaw03_StartcodeSplit_S := by
  intro b hb _ R k Good hk
  refine gD (fun _ => hk) fun h => ?_
  have hs : small b := by unfold small; omega
  refine gNeed hs fun _ => gL fun r1 h1 => gNeed hs fun _ => gL fun r2 h2 => ?_
  have he : r2 = r1 := h2.trans h1.symm
  subst he
  refine gN (fun h => absurd rfl h) fun _ => gN (fun h => absurd rfl h) fun _ => gNeed ⟨rfl, by omega⟩ fun _ => gS (fun a ha => by cases ha) fun _ _ => ?_
  exact gNeed ⟨rfl, by omega⟩ fun _ => gS (fun a ha => by cases ha) fun _ _ => awake_pass hk
theorem cutroomlaw03_StartcodeSplit_law (b : List Int) (_ : okT (.sl (.int .u8)) b) : cutroomlaw03_StartcodeSplit_pre b ∧ cutroomlaw03_StartcodeSplit_S b = true := ⟨trivial, rfl⟩

end Go.Proofs.Ytjelaopafhnlnaa
