/- What functions of the program compute, and that the printed trees compute it. -/
import Derived.Test.YtlmdhmieiejkfaaEngC
set_option linter.unusedVariables false
set_option maxRecDepth 100000
namespace Go.Proofs.Ytlmdhmieiejkfaa
open Go Go.Eng Go.Proofs
/-! ### bits: lists of 0 and 1 -/
def bitsOf : Int → Nat → List Int
  | _, 0 => []
  | v, n + 1 => bitsOf (v / 2) n ++ [v % 2]
def valOf (l : List Int) : Int := l.foldl (fun v b => 2 * v + b) 0
def Bits (l : List Int) : Prop := ∀ x ∈ l, x = 0 ∨ x = 1
theorem snoc_ex {l : List Int} (h : l ≠ []) : ∃ m b, l = m ++ [b] := ⟨l.dropLast, l.getLast h, (List.dropLast_concat_getLast h).symm⟩
theorem snoc_len {l : List Int} {n : Nat} (h : l.length = n + 1) : ∃ m b, l = m ++ [b] := snoc_ex (by intro he; simp [he] at h)
theorem Bits.nil : Bits [] := fun _ h => by cases h
theorem Bits.append {a b : List Int} (ha : Bits a) (hb : Bits b) : Bits (a ++ b) := fun x hx => by
  rcases List.mem_append.1 hx with h | h
  · exact ha x h
  · exact hb x h
theorem Bits.of_append {a b : List Int} (h : Bits (a ++ b)) : Bits a ∧ Bits b := ⟨fun x hx => h x (by simp [hx]), fun x hx => h x (by simp [hx])⟩
theorem Bits.take {a : List Int} (h : Bits a) (n : Nat) : Bits (a.take n) := fun x hx => h x (List.mem_of_mem_take hx)
theorem Bits.drop {a : List Int} (h : Bits a) (n : Nat) : Bits (a.drop n) := fun x hx => h x (List.mem_of_mem_drop hx)
theorem Bits.one {b : Int} (h : b = 0 ∨ b = 1) : Bits [b] := fun x hx => by simp at hx; rw [hx]; exact h
theorem Bits.zeros (n : Nat) : Bits (List.replicate n 0) := fun x hx => .inl (List.eq_of_mem_replicate hx)
theorem bitsOf_len : ∀ (n : Nat) (v : Int), (bitsOf v n).length = n
  | 0, _ => rfl
  | n + 1, v => by simp [bitsOf, bitsOf_len n]
theorem bitsOf_bits : ∀ (n : Nat) (v : Int), Bits (bitsOf v n)
  | 0, _ => Bits.nil
  | n + 1, v => (bitsOf_bits n _).append (Bits.one (by omega))
theorem pow_pos2 (n : Nat) : (0 : Int) < 2 ^ n := Int.pow_pos (by omega)
theorem bitsOf_front : ∀ (n : Nat) (v : Int), bitsOf v (n + 1) = (v / 2 ^ n % 2) :: bitsOf v n
  | 0, v => by simp [bitsOf]
  | n + 1, v => by
    rw [bitsOf, bitsOf_front n (v / 2), bitsOf]
    have : v / 2 / 2 ^ n = v / 2 ^ (n + 1) := by
      rw [Int.ediv_ediv_of_nonneg (by omega), Int.pow_succ, Int.mul_comm]
    rw [this]
    rfl
theorem valOf_snoc (l : List Int) (b : Int) : valOf (l ++ [b]) = 2 * valOf l + b := by simp [valOf]
theorem valOf_bounds : ∀ {l : List Int}, Bits l → 0 ≤ valOf l ∧ valOf l < 2 ^ l.length := by
  intro l
  induction hl : l.length generalizing l with
  | zero => intro _; obtain rfl := List.eq_nil_of_length_eq_zero hl; simp [valOf]
  | succ n ih =>
    intro h
    obtain ⟨m, b, rfl⟩ : ∃ m b, l = m ++ [b] := snoc_len hl
    have hm := @ih m (by simpa using hl) h.of_append.1
    rw [valOf_snoc, Int.pow_succ]
    have := h b (by simp)
    omega
theorem bitsOf_valOf : ∀ {l : List Int}, Bits l → bitsOf (valOf l) l.length = l := by
  intro l
  induction hl : l.length generalizing l with
  | zero => intro _; obtain rfl := List.eq_nil_of_length_eq_zero hl; rfl
  | succ n ih =>
    intro h
    obtain ⟨m, b, rfl⟩ : ∃ m b, l = m ++ [b] := snoc_len hl
    have hm := @ih m (by simpa using hl) h.of_append.1
    have := h b (by simp)
    rw [valOf_snoc, bitsOf, show (2 * valOf m + b) / 2 = valOf m by omega, show (2 * valOf m + b) % 2 = b by omega, hm]
theorem valOf_bitsOf : ∀ (n : Nat) (v : Int), valOf (bitsOf v n) = v % 2 ^ n
  | 0, v => by simp [bitsOf, valOf, Int.emod_one]
  | n + 1, v => by
    rw [bitsOf, valOf_snoc, valOf_bitsOf n, Int.pow_succ]
    have hp := pow_pos2 n
    have e1 : v / 2 = 2 ^ n * (v / 2 / 2 ^ n) + v / 2 % 2 ^ n := (Int.mul_ediv_add_emod _ _).symm
    have b1 := Int.emod_nonneg (v / 2) (Int.ne_of_gt hp)
    have b2 := Int.emod_lt_of_pos (v / 2) hp
    have e2 : v = 2 ^ n * 2 * (v / 2 / 2 ^ n) + (2 * (v / 2 % 2 ^ n) + v % 2) := by
      have : 2 ^ n * 2 * (v / 2 / 2 ^ n) = 2 * (2 ^ n * (v / 2 / 2 ^ n)) := by
        rw [Int.mul_comm (2 ^ n) 2, Int.mul_assoc]
      rw [this]; omega
    generalize hq : v / 2 / 2 ^ n = q at *
    generalize hr : 2 * (v / 2 % 2 ^ n) + v % 2 = r at *
    have hr1 : 0 ≤ r ∧ r < 2 ^ n * 2 := by omega
    rw [e2, Int.mul_add_emod_self_left, Int.emod_eq_of_lt hr1.1 hr1.2]
theorem valOf_bitsOf_id {n : Nat} {v : Int} (h0 : 0 ≤ v) (h1 : v < 2 ^ n) : valOf (bitsOf v n) = v := by
  rw [valOf_bitsOf, Int.emod_eq_of_lt h0 h1]
theorem valOf_append (a : List Int) : ∀ b : List Int, valOf (a ++ b) = valOf a * 2 ^ b.length + valOf b := by
  intro b
  induction hl : b.length generalizing b with
  | zero => obtain rfl := List.eq_nil_of_length_eq_zero hl; simp [valOf]
  | succ n ih =>
    obtain ⟨m, x, rfl⟩ : ∃ m b', b = m ++ [b'] := snoc_len hl
    rw [← List.append_assoc, valOf_snoc, valOf_snoc, @ih m (by simpa using hl), Int.pow_succ]
    rw [Int.mul_add, show valOf a * (2 ^ n * 2) = 2 * (valOf a * 2 ^ n) by rw [Int.mul_comm 2, Int.mul_assoc]]
    omega
theorem valOf_zeros (n : Nat) : valOf (List.replicate n 0) = 0 := by
  induction n with
  | zero => rfl
  | succ n ih => rw [List.replicate_succ', valOf_snoc, ih]; rfl

/-! ### bytes -/
def byteOf (l : List Int) : Int := valOf (l ++ List.replicate (8 - l.length) 0)
def pk (l : List Int) : List Int :=
  if h : l = [] then [] else byteOf (l.take 8) :: pk (l.drop 8)
  termination_by l.length
  decreasing_by
    have : 0 < l.length := List.length_pos_iff.2 h
    simp only [List.length_drop]; omega
def unpk (p : List Int) : List Int := p.flatMap fun c => bitsOf c 8
theorem pk_nil : pk [] = [] := by rw [pk]; simp
theorem pk_ne {l : List Int} (h : l ≠ []) : pk l = byteOf (l.take 8) :: pk (l.drop 8) := by rw [pk]; simp [h]
theorem pk_chunk {a l : List Int} (h : a.length = 8) : pk (a ++ l) = valOf a :: pk l := by
  rw [pk_ne (by intro he; have := congrArg List.length he; simp [h] at this)]
  rw [List.take_left' h, List.drop_left' h]
  unfold byteOf
  rw [h]; simp
theorem chunk_ind {p : List Int → Prop} (h0 : ∀ l, l.length < 8 → p l) (h1 : ∀ a l, a.length = 8 → p l → p (a ++ l)) : ∀ l, p l := by
  intro l
  induction hn : l.length using Nat.strongRecOn generalizing l with
  | _ n ih =>
    by_cases h : l.length < 8
    · exact h0 l h
    · rw [← List.take_append_drop 8 l]
      exact h1 _ _ (by simp; omega) (ih (l.drop 8).length (by simp; omega) _ rfl)
theorem pk_small {l : List Int} (h0 : l ≠ []) (h : l.length < 8) : pk l = [byteOf l] := by
  rw [pk_ne h0, List.take_of_length_le (by omega), List.drop_eq_nil_of_le (by omega), pk_nil]
theorem pk_len : ∀ l : List Int, (pk l).length = (l.length + 7) / 8 := by
  refine chunk_ind (fun l h => ?_) (fun a l ha ih => ?_)
  · by_cases h0 : l = []
    · subst h0; simp [pk_nil]
    · rw [pk_small h0 h]
      have : 0 < l.length := List.length_pos_iff.2 h0
      simp; omega
  · rw [pk_chunk ha]; simp [ih, ha]; omega
theorem pad_len {l : List Int} (h : l.length ≤ 8) : (l ++ List.replicate (8 - l.length) (0 : Int)).length = 8 := by simp; omega
theorem byteOf_bounds {l : List Int} (hb : Bits l) (h : l.length ≤ 8) : 0 ≤ byteOf l ∧ byteOf l ≤ 255 := by
  have := valOf_bounds (hb.append (Bits.zeros (8 - l.length)))
  rw [pad_len h] at this
  unfold byteOf; omega
theorem byteOf_eq {l : List Int} : byteOf l = valOf l * 2 ^ (8 - l.length) := by
  unfold byteOf; rw [valOf_append, valOf_zeros]; simp
theorem unpk_cons (c : Int) (p : List Int) : unpk (c :: p) = bitsOf c 8 ++ unpk p := rfl
theorem unpk_append (p q : List Int) : unpk (p ++ q) = unpk p ++ unpk q := by simp [unpk]
theorem unpk_bits (p : List Int) : Bits (unpk p) := fun x hx => by
  obtain ⟨c, _, h⟩ := List.mem_flatMap.1 hx
  exact bitsOf_bits 8 c x h
theorem unpk_len : ∀ p : List Int, (unpk p).length = 8 * p.length
  | [] => rfl
  | c :: p => by rw [unpk_cons]; simp [bitsOf_len, unpk_len p]; omega
theorem unpk_pk : ∀ l : List Int, Bits l → unpk (pk l) = l ++ List.replicate (8 * ((l.length + 7) / 8) - l.length) 0 := by
  refine chunk_ind (fun l h hb => ?_) (fun a l ha ih hb => ?_)
  · by_cases h0 : l = []
    · subst h0; simp [pk_nil, unpk]
    · have hpos : 0 < l.length := List.length_pos_iff.2 h0
      rw [pk_small h0 h, unpk_cons]
      unfold byteOf
      have := bitsOf_valOf (hb.append (Bits.zeros (8 - l.length)))
      rw [pad_len (by omega)] at this
      rw [this, show 8 * ((l.length + 7) / 8) - l.length = 8 - l.length by omega]
      simp [unpk]
  · rw [pk_chunk ha, unpk_cons, ih hb.of_append.2]
    have := bitsOf_valOf hb.of_append.1
    rw [ha] at this
    rw [this, List.append_assoc]
    congr 3
    simp [ha]; omega
theorem pk_unpk : ∀ {p : List Int}, (∀ x ∈ p, 0 ≤ x ∧ x ≤ 255) → pk (unpk p) = p
  | [], _ => by simp [unpk, pk_nil]
  | c :: p, h => by
    have hc := h c (by simp)
    rw [unpk_cons, pk_chunk (bitsOf_len 8 c), valOf_bitsOf_id hc.1 (by omega), pk_unpk fun x hx => h x (by simp [hx])]
theorem pk_bytes : ∀ l : List Int, Bits l → ∀ x ∈ pk l, 0 ≤ x ∧ x ≤ 255 := by
  refine chunk_ind (fun l h hb x hx => ?_) (fun a l ha ih hb x hx => ?_)
  · by_cases h0 : l = []
    · subst h0; rw [pk_nil] at hx; cases hx
    · rw [pk_small h0 h] at hx
      simp at hx
      rw [hx]; exact byteOf_bounds hb (by omega)
  · rw [pk_chunk ha] at hx
    rcases List.mem_cons.1 hx with rfl | hx
    · have := valOf_bounds hb.of_append.1
      rw [ha] at this
      omega
    · exact ih hb.of_append.2 x hx
theorem pk_take {l : List Int} (hb : Bits l) : (unpk (pk l)).take l.length = l := by
  rw [unpk_pk l hb, List.take_left]
theorem pk_inj {a b : List Int} (ha : Bits a) (hb : Bits b) (hl : a.length = b.length) (h : pk a = pk b) : a = b := by
  rw [← pk_take ha, ← pk_take hb, h, hl]
/-- zeros that fill the last byte change nothing -/
theorem pk_pad : ∀ l : List Int, ∀ t, (l.length + t + 7) / 8 = (l.length + 7) / 8 → pk (l ++ List.replicate t 0) = pk l := by
  refine chunk_ind (fun l h t ht => ?_) (fun a l ha ih t ht => ?_)
  · by_cases h0 : l = []
    · subst h0
      have : t = 0 := by simp at ht; omega
      subst this; rfl
    · have hpos : 0 < l.length := List.length_pos_iff.2 h0
      have h8 : l.length + t ≤ 8 := by omega
      rw [pk_small h0 h, pk_ne (by simp [h0]), List.take_of_length_le (by simp; omega), List.drop_eq_nil_of_le (by simp; omega), pk_nil]
      unfold byteOf
      rw [List.append_assoc, List.replicate_append_replicate]
      congr 3
      simp; omega
  · rw [List.append_assoc, pk_chunk ha, pk_chunk ha, ih]
    simp [ha] at ht; omega

/-! ### the machine's operations on bits -/
theorem wrapU {k : IntKind} (hs : k.signed = false) {n : Int} (h0 : 0 ≤ n) (h1 : n < 2 ^ k.bits) : k.wrap n = n := by
  cases k <;> simp [IntKind.signed] at hs <;> (unfold IntKind.wrap; simp [IntKind.bits, IntKind.signed] at *; omega)
theorem ofInt_nat (n a : Nat) : (BitVec.ofInt n (a : Int)).toNat = a % 2 ^ n := by
  rw [BitVec.ofInt_natCast, BitVec.toNat_ofNat]
theorem bor_u {k : IntKind} (hs : k.signed = false) {a b : Nat} (ha : a < 2 ^ k.bits) (hb : b < 2 ^ k.bits) : bor k a b = ((a ||| b : Nat) : Int) := by
  unfold bor
  rw [BitVec.toNat_or, ofInt_nat, ofInt_nat, Nat.mod_eq_of_lt ha, Nat.mod_eq_of_lt hb]
  have := Nat.or_lt_two_pow ha hb
  exact wrapU hs (by omega) (by exact_mod_cast this)
theorem band_u {k : IntKind} (hs : k.signed = false) {a b : Nat} (ha : a < 2 ^ k.bits) (hb : b < 2 ^ k.bits) : band k a b = ((a &&& b : Nat) : Int) := by
  unfold band
  rw [BitVec.toNat_and, ofInt_nat, ofInt_nat, Nat.mod_eq_of_lt ha, Nat.mod_eq_of_lt hb]
  have : a &&& b < 2 ^ k.bits := Nat.and_lt_two_pow a hb
  exact wrapU hs (by omega) (by exact_mod_cast this)
theorem band1 {k : IntKind} (hs : k.signed = false) {v : Int} (h0 : 0 ≤ v) (h1 : v < 2 ^ k.bits) : band k v 1 = v % 2 := by
  obtain ⟨a, rfl⟩ := Int.eq_ofNat_of_zero_le h0
  have ha : a < 2 ^ k.bits := by exact_mod_cast h1
  have h2 : 1 < 2 ^ k.bits := by cases k <;> decide
  have := band_u hs ha h2
  rw [show ((1 : Nat) : Int) = 1 from rfl] at this
  rw [this, Nat.and_one_is_mod]
  rfl
theorem bshr_eq {k : IntKind} {v : Int} {s : Nat} (hs : s ≤ k.bits) : bshr k v (s : Int) = v / 2 ^ s := by
  unfold bshr
  rw [Int.toNat_natCast, Nat.min_eq_left hs, Int.fdiv_eq_ediv_of_nonneg _ (Int.le_of_lt (pow_pos2 s))]
theorem bshl_u {k : IntKind} (hk : k.signed = false) {v : Int} {s : Nat} (hs : s ≤ k.bits) (h0 : 0 ≤ v) (h1 : v * 2 ^ s < 2 ^ k.bits) : bshl k v (s : Int) = v * 2 ^ s := by
  unfold bshl
  rw [Int.toNat_natCast, Nat.min_eq_left hs]
  exact wrapU hk (Int.mul_nonneg h0 (Int.le_of_lt (pow_pos2 s))) h1
/-- a bit below all that is there -/
theorem bor_low {k : IntKind} (hk : k.signed = false) {q y : Int} {s : Nat} (hq : 0 ≤ q) (hy : 0 ≤ y) (hys : y < 2 ^ s) (h1 : q * 2 ^ s + y < 2 ^ k.bits) : bor k (q * 2 ^ s) y = q * 2 ^ s + y := by
  obtain ⟨a, rfl⟩ := Int.eq_ofNat_of_zero_le hq
  obtain ⟨b, rfl⟩ := Int.eq_ofNat_of_zero_le hy
  have e : (a : Int) * 2 ^ s = ((2 ^ s * a : Nat) : Int) := by push_cast; rw [Int.mul_comm]
  rw [e] at h1 ⊢
  have hb : b < 2 ^ s := by exact_mod_cast hys
  have h2 : 2 ^ s * a + b < 2 ^ k.bits := by exact_mod_cast h1
  rw [bor_u hk (by omega) (by omega), ← Nat.two_pow_add_eq_or_of_lt hb]
  push_cast; rfl

/-! ### a bit more -/
theorem pk_snoc0 : ∀ l : List Int, ∀ b, l.length % 8 = 0 → pk (l ++ [b]) = pk l ++ [b * 128] := by
  refine chunk_ind (fun l h b h0 => ?_) (fun a l ha ih b h0 => ?_)
  · have : l = [] := List.eq_nil_of_length_eq_zero (by omega)
    subst this
    rw [List.nil_append, pk_small (by simp) (by simp), pk_nil, byteOf_eq]
    simp [valOf]
  · rw [List.append_assoc, pk_chunk ha, pk_chunk ha, ih b (by simp [ha] at h0; omega)]
    rfl
theorem pk_snoc1 : ∀ l : List Int, Bits l → l.length % 8 ≠ 0 → ∃ q, 0 ≤ q ∧ q < 2 ^ (l.length % 8) ∧ (pk l).getD (l.length / 8) 0 = q * 2 ^ (8 - l.length % 8) ∧
    ∀ b, pk (l ++ [b]) = (pk l).set (l.length / 8) (q * 2 ^ (8 - l.length % 8) + b * 2 ^ (7 - l.length % 8)) := by
  refine chunk_ind (fun l h hb h0 => ?_) (fun a l ha ih hb h0 => ?_)
  · have hd : l.length / 8 = 0 := by omega
    have hm : l.length % 8 = l.length := by omega
    have hne : l ≠ [] := by intro e; subst e; simp at h0
    have hv := valOf_bounds hb
    refine ⟨valOf l, ?_⟩
    rw [hd, hm, pk_small hne h, byteOf_eq]
    refine ⟨hv.1, hv.2, by simp, fun b => ?_⟩
    by_cases h7 : l.length = 7
    · rw [pk_ne (by simp), List.take_of_length_le (by simp <;> omega), List.drop_eq_nil_of_le (by simp <;> omega), pk_nil, byteOf_eq, valOf_snoc]
      simp only [List.length_append, List.length_singleton, h7, List.set_cons_zero]
      congr 1
      simp <;> omega
    · rw [pk_small (by simp) (by simp <;> omega), byteOf_eq, valOf_snoc]
      simp only [List.length_append, List.length_singleton, List.set_cons_zero]
      congr 1
      rw [show 8 - (l.length + 1) = 7 - l.length by omega, show 8 - l.length = (7 - l.length) + 1 by omega, Int.pow_succ, Int.add_mul, Int.mul_comm 2, Int.mul_assoc, Int.mul_comm 2]
  · have hd : (a ++ l).length / 8 = l.length / 8 + 1 := by simp [ha] <;> omega
    have hm : (a ++ l).length % 8 = l.length % 8 := by simp [ha]
    obtain ⟨q, h1, h2, h3, h4⟩ := ih hb.of_append.2 (by rw [← hm]; exact h0)
    refine ⟨q, ?_⟩
    rw [hd, hm, pk_chunk ha]
    refine ⟨h1, h2, by simpa using h3, fun b => ?_⟩
    rw [List.append_assoc, pk_chunk ha, h4]
    rfl

abbrev T_api_Rat : Ty := (.pair (.int .i64) (.pair (.int .i64) .unit))
abbrev D_api_Rat : Type := Int × Int × Unit
abbrev Z_api_Rat : D_api_Rat := (0, (0, ()))
abbrev T_api_Unit : Ty := (.pair (.int .i64) (.pair (.sl (.int .u8)) .unit))
abbrev D_api_Unit : Type := Int × (List Int) × Unit
abbrev Z_api_Unit : D_api_Unit := (0, ([], ()))
abbrev T_bitio_Writer : Ty := (.pair (.sl (.int .u8)) (.pair (.int .i64) .unit))
abbrev D_bitio_Writer : Type := (List Int) × Int × Unit
abbrev Z_bitio_Writer : D_bitio_Writer := ([], (0, ()))
abbrev T_cutroomfilm_Tape : Ty := (.pair (.sl (.int .i64)) (.pair (.int .i64) .unit))
abbrev D_cutroomfilm_Tape : Type := (List Int) × Int × Unit
abbrev Z_cutroomfilm_Tape : D_cutroomfilm_Tape := ([], (0, ()))
abbrev T_bitio_Reader : Ty := (.pair (.sl (.int .u8)) (.pair (.int .i64) (.pair (.int .i64) .unit)))
abbrev D_bitio_Reader : Type := (List Int) × Int × Int × Unit
abbrev Z_bitio_Reader : D_bitio_Reader := ([], (0, (0, ())))
abbrev T_api_Run : Ty := (.pair .str (.pair (.int .i64) (.pair (.int .i64) (.pair (.int .i64) .unit))))
abbrev D_api_Run : Type := ByteArray × Int × Int × Int × Unit
abbrev Z_api_Run : D_api_Run := (ByteArray.empty, (0, (0, (0, ()))))
abbrev T_api_Entry : Ty := (.pair (.int .i64) (.pair .bool (.pair (.int .i64) (.pair .bool (.pair .bool .unit)))))
abbrev D_api_Entry : Type := Int × Bool × Int × Bool × Bool × Unit
abbrev Z_api_Entry : D_api_Entry := (0, (false, (0, (false, (false, ())))))
abbrev T_api_Part : Ty := (.pair .bool (.pair (.int .i64) (.pair (.int .i64) (.pair .str (.pair (.int .i64) .unit)))))
abbrev D_api_Part : Type := Bool × Int × Int × ByteArray × Int × Unit
abbrev Z_api_Part : D_api_Part := (false, (0, (0, (ByteArray.empty, (0, ())))))
abbrev T_api_Pic : Ty := (.pair (.int .i64) (.pair (.int .i64) (.pair (.int .i64) (.pair .bool (.pair .bool (.pair .bool .unit))))))
abbrev D_api_Pic : Type := Int × Int × Int × Bool × Bool × Bool × Unit
abbrev Z_api_Pic : D_api_Pic := (0, (0, (0, (false, (false, (false, ()))))))
abbrev T_api_Plan : Ty := (.pair (.sl T_api_Part) .unit)
abbrev D_api_Plan : Type := (List D_api_Part) × Unit
abbrev Z_api_Plan : D_api_Plan := ([], ())
abbrev T_api_Seq : Ty := (.pair (.int .i64) (.pair (.int .i64) (.pair T_api_Rat (.pair .bool (.pair (.int .i64) (.pair (.int .i64) (.pair (.arr 64 (.int .u8)) (.pair (.arr 64 (.int .u8)) .unit))))))))
abbrev D_api_Seq : Type := Int × Int × D_api_Rat × Bool × Int × Int × (List Int) × (List Int) × Unit
abbrev Z_api_Seq : D_api_Seq := (0, (0, (Z_api_Rat, (false, (0, (0, ((List.replicate 64 0), ((List.replicate 64 0), ()))))))))
abbrev T_api_Index : Ty := (.pair .str (.pair T_api_Seq (.pair (.sl T_api_Entry) .unit)))
abbrev D_api_Index : Type := ByteArray × D_api_Seq × (List D_api_Entry) × Unit
abbrev Z_api_Index : D_api_Index := (ByteArray.empty, (Z_api_Seq, ([], ())))
/-! ### what the functions of bitio, cutroomref02, picture's headers compute -/
def wbits (n : Int) (o : List Int) : List Int := (unpk o).take n.toNat
/-- a writer of n bits in the bytes o, with room for m more -/
def WOK (n : Int) (o : List Int) (m : Int) : Prop := ∃ bs, Bits bs ∧ n = bs.length ∧ o = pk bs ∧ (bs.length : Int) + m ≤ 1000000000000
def unmark (l : List Int) : List Int := (l.reverse.dropWhile (fun b => b == 0)).tail.reverse
def rd (p : List Int) : List Int := unmark (unpk p)
def goodP (p : List Int) : Bool := p.getLast?.getD 0 != 0
def b2i (b : Bool) : Int := if b = true then 1 else 0
def picOk (h : D_api_Pic) : Bool := decide (1 ≤ h.1 ∧ h.1 ≤ 3 ∧ 1 ≤ h.2.1 ∧ h.2.1 ≤ 3 ∧ 0 ≤ h.2.2.1 ∧ h.2.2.1 ≤ 1023)
def hbits (h : D_api_Pic) : List Int := bitsOf h.2.2.1 10 ++ (bitsOf h.1 2 ++ (bitsOf h.2.1 2 ++ [b2i h.2.2.2.1, b2i h.2.2.2.2.1, b2i h.2.2.2.2.2.1]))
def Z_pic : D_api_Pic := (0, (0, (0, (false, (false, (false, ()))))))
def picture_coded_pre (h : D_api_Pic) : Prop := True
def picture_coded_S (h : D_api_Pic) : Bool := picOk h
def bitio_NewWriter_pre  : Prop := True
def bitio_NewWriter_S  : Int × List Int := (0, [])
def picture_bit_pre (b : Bool) : Prop := True
def picture_bit_S (b : Bool) : Int := b2i b
def bitio_Writer_Put_L6_pre (v5 : Int) (n6 : Int) (x7 : Int) (x8 : Int) (w19 : Int) (o : List Int) : Prop := n6 = x7 ∧ 0 ≤ x8 ∧ x8 ≤ x7 ∧ x7 ≤ 32 ∧ WOK w19 o (x7 - x8)
def bitio_Writer_Put_L6_mu (v5 : Int) (n6 : Int) (x7 : Int) (x8 : Int) (w19 : Int) (o : List Int) : Nat := (x7 - x8).toNat
def bitio_Writer_Put_L6_S (v5 : Int) (n6 : Int) (x7 : Int) (x8 : Int) (w19 : Int) (o : List Int) : Int × List Int := (w19 + (x7 - x8), pk (wbits w19 o ++ bitsOf v5 (x7 - x8).toNat))
def bitio_Writer_Put_pre (v : Int) (n : Int) (w1 : Int) (w : List Int) : Prop := WOK w1 w 32
def bitio_Writer_Put_S (v : Int) (n : Int) (w1 : Int) (w : List Int) : Int × Int × List Int :=
  if n < 0 ∨ 32 < n then (1, w1, w) else if 2 ^ n.toNat ≤ v then (2, w1, w) else (0, w1 + n, pk (wbits w1 w ++ bitsOf v n.toNat))
def bitio_Writer_Payload_pre (w1 : Int) (w : List Int) : Prop := WOK w1 w 0
def bitio_Writer_Payload_S (w1 : Int) (w : List Int) : Int × List Int × List Int := (w1, w, pk (wbits w1 w ++ [1]))
def fbits (l : List (Int × Int × Unit)) : List Int := l.flatMap fun f => bitsOf f.1 f.2.1.toNat
def FOKs (l : List (Int × Int × Unit)) : Prop := ∀ f ∈ l, 0 ≤ f.2.1 ∧ f.2.1 ≤ 32 ∧ 0 ≤ f.1 ∧ f.1 < 2 ^ f.2.1.toNat
def picture_PutHeader_L5_pre (x15 : Int) (o17 : D_api_Unit) (o19 : List (Int × Int × Unit)) (x16 : Int) (w1 : Int) (o18 : List Int) : Prop :=
  x15 = o19.length ∧ 0 ≤ x16 ∧ x16 ≤ x15 ∧ x15 ≤ 1000 ∧ WOK w1 o18 (32 * (x15 - x16)) ∧ FOKs o19
def picture_PutHeader_L5_mu (x15 : Int) (o17 : D_api_Unit) (o19 : List (Int × Int × Unit)) (x16 : Int) (w1 : Int) (o18 : List Int) : Nat := (x15 - x16).toNat
def picture_PutHeader_L5_S (x15 : Int) (o17 : D_api_Unit) (o19 : List (Int × Int × Unit)) (x16 : Int) (w1 : Int) (o18 : List Int) : (Int × D_api_Unit) ⊕ (Int × List Int) :=
  .inr (w1 + (fbits (o19.drop x16.toNat)).length, pk (wbits w1 o18 ++ fbits (o19.drop x16.toNat)))
def picture_PutHeader_pre (h : D_api_Pic) : Prop := True
def picture_PutHeader_S (h : D_api_Pic) : D_api_Unit × Int := if picOk h = true then ((181, (pk (hbits h ++ [1]), ())), 0) else ((0, ([], ())), 2)
def cutroomref11_header_pre (h : D_api_Pic) : Prop := True
def cutroomref11_header_S (h : D_api_Pic) : Bool := picOk h
def cutroomref02_Bits_L3_pre (v1 : Int) (i : Int) (out : List Int) : Prop := -1 ≤ i ∧ i ≤ 31 ∧ (out.length : Int) + i ≤ 1000
def cutroomref02_Bits_L3_mu (v1 : Int) (i : Int) (out : List Int) : Nat := (i + 1).toNat
def cutroomref02_Bits_L3_S (v1 : Int) (i : Int) (out : List Int) : List Int := out ++ bitsOf v1 (i + 1).toNat
def cutroomref02_Bits_pre (v : Int) (n : Int) : Prop := 0 ≤ n ∧ n ≤ 32
def cutroomref02_Bits_S (v : Int) (n : Int) : List Int := bitsOf v n.toNat
def cutroomref11_bit_pre (b : Bool) : Prop := True
def cutroomref11_bit_S (b : Bool) : Int := b2i b
def cutroomref02_Payload_L3_pre (l3 : List Int) (i : Int) (out : List Int) : Prop :=
  Bits l3 ∧ (l3.length : Int) ≤ 1000000000000 ∧ 0 ≤ i ∧ i ≤ l3.length + 1 ∧ out = pk ((l3 ++ [1]).take i.toNat ++ List.replicate (8 * (l3.length / 8 + 1) - i.toNat) 0)
def cutroomref02_Payload_L3_mu (l3 : List Int) (i : Int) (out : List Int) : Nat := (l3.length + 1 - i).toNat
def cutroomref02_Payload_L3_S (l3 : List Int) (i : Int) (out : List Int) : List Int := pk (l3 ++ [1])
def cutroomref02_Payload_pre (l : List Int) : Prop := Bits l ∧ (l.length : Int) ≤ 1000000000000
def cutroomref02_Payload_S (l : List Int) : List Int := pk (l ++ [1])
def cutroomref11_PutHeader_pre (h : D_api_Pic) : Prop := True
def cutroomref11_PutHeader_S (h : D_api_Pic) : D_api_Unit × Int := picture_PutHeader_S h
def cutroomref02_SameBytes_pre (a : List Int) (b : List Int) : Prop := True
noncomputable def cutroomref02_SameBytes_S (a : List Int) (b : List Int) : Bool := (strL a).toList == (strL b).toList
def cutroomref03_SameUnit_pre (a : D_api_Unit) (b : D_api_Unit) : Prop := True
noncomputable def cutroomref03_SameUnit_S (a : D_api_Unit) (b : D_api_Unit) : Bool := a.1 == b.1 && cutroomref02_SameBytes_S a.2.1 b.2.1
def bitio_NewReader_L6_pre (payload9 : List Int) (end_ : Int) (last : Int) : Prop :=
  (payload9.length : Int) ≤ 100000000000 ∧ 0 < last ∧ ∃ A j, Bits A ∧ unpk payload9 = A ++ bitsOf last (8 - j) ++ List.replicate j 0 ∧ j ≤ 7 ∧ last < 2 ^ (8 - j) ∧ end_ = A.length + (7 - j)
def bitio_NewReader_L6_mu (payload9 : List Int) (end_ : Int) (last : Int) : Nat := last.toNat
def bitio_NewReader_L6_S (payload9 : List Int) (end_ : Int) (last : Int) : Int := (rd payload9).length
def bitio_NewReader_pre (payload : List Int) : Prop := (payload.length : Int) ≤ 100000000000
def bitio_NewReader_S (payload : List Int) : (Unit) ⊕ (Int × Int × List Int) := if goodP payload = true then .inr (0, (rd payload).length, payload) else .inl ()
/-- a reader at bit i of n, in the bytes o -/
def ROK (i n : Int) (o : List Int) : Prop := 0 ≤ i ∧ i ≤ n ∧ n ≤ 8 * o.length ∧ (o.length : Int) ≤ 100000000000
def bitio_Reader_Take_L7_pre (x5 : Int) (r18 : Int) (o : List Int) (v : Int) (x6 : Int) (r17 : Int) : Prop :=
  0 ≤ x6 ∧ x6 ≤ x5 ∧ x5 ≤ 32 ∧ ROK r17 r18 o ∧ r17 + (x5 - x6) ≤ r18 ∧ v < 2 ^ x6.toNat
def bitio_Reader_Take_L7_mu (x5 : Int) (r18 : Int) (o : List Int) (v : Int) (x6 : Int) (r17 : Int) : Nat := (x5 - x6).toNat
def bitio_Reader_Take_L7_S (x5 : Int) (r18 : Int) (o : List Int) (v : Int) (x6 : Int) (r17 : Int) : Int × Int :=
  (v * 2 ^ (x5 - x6).toNat + valOf (((unpk o).drop r17.toNat).take (x5 - x6).toNat), r17 + (x5 - x6))
def bitio_Reader_Take_pre (n : Int) (r1 : Int) (r11 : Int) (r_ : List Int) : Prop := ROK r1 r11 r_
def bitio_Reader_Take_S (n : Int) (r1 : Int) (r11 : Int) (r_ : List Int) : Int × Int × Int × Int × List Int :=
  if n < 0 ∨ 32 < n then (0, 1, r1, r11, r_) else if r11 - r1 < n then (0, 4, r1, r11, r_) else (valOf (((unpk r_).drop r1.toNat).take n.toNat), 0, r1 + n, r11, r_)
def picture_TakeHeader_1_pre (n : Int) (o1 : Int) (o11 : Int) (o : List Int) : Prop := ROK o1 o11 o
def picture_TakeHeader_1_S (n : Int) (o1 : Int) (o11 : Int) (o : List Int) : Int × Int × Int × List Int :=
  ((bitio_Reader_Take_S n o1 o11 o).1, (bitio_Reader_Take_S n o1 o11 o).2.2)
def bytes_Equal_pre (a : List Int) (b : List Int) : Prop := True
noncomputable def bytes_Equal_S (a : List Int) (b : List Int) : Bool := (strL a).toList == (strL b).toList
/-- the header of 17 bits -/
def hdrOf (L : List Int) : D_api_Pic :=
  (valOf ((L.drop 10).take 2), (valOf ((L.drop 12).take 2), (valOf (L.take 10), (valOf ((L.drop 14).take 1) == 1, (valOf ((L.drop 15).take 1) == 1, (valOf ((L.drop 16).take 1) == 1, ()))))))
def takeHdr (u : D_api_Unit) : D_api_Pic × Int :=
  if u.1 = 181 ∧ goodP u.2.1 = true ∧ (rd u.2.1).length = 17 ∧ picOk (hdrOf (rd u.2.1)) = true then (hdrOf (rd u.2.1), 0) else (Z_pic, 3)
def picture_TakeHeader_pre (u : D_api_Unit) : Prop := (u.2.1.length : Int) ≤ 100000000000
def picture_TakeHeader_S (u : D_api_Unit) : D_api_Pic × Int := takeHdr u
def cutroomref02_Open_L5_pre (p6 : List Int) (i : Int) (l : List Int) : Prop := (p6.length : Int) ≤ 100000000000 ∧ 0 ≤ i ∧ i ≤ p6.length ∧ l = unpk (p6.take i.toNat)
def cutroomref02_Open_L5_mu (p6 : List Int) (i : Int) (l : List Int) : Nat := (p6.length - i).toNat
def cutroomref02_Open_L5_S (p6 : List Int) (i : Int) (l : List Int) : List Int := unpk p6
def cutroomref02_Open_L9_pre (l16 : List Int) (end_ : Int) : Prop := (l16.length : Int) ≤ 1000000000000 ∧ ∃ A j, l16 = A ++ 1 :: List.replicate j 0 ∧ (A.length : Int) ≤ end_ ∧ end_ < l16.length
def cutroomref02_Open_L9_mu (l16 : List Int) (end_ : Int) : Nat := end_.toNat
def cutroomref02_Open_L9_S (l16 : List Int) (end_ : Int) : Int := (unmark l16).length
def cutroomref02_Open_pre (p : List Int) : Prop := (p.length : Int) ≤ 100000000000
def cutroomref02_Open_S (p : List Int) : (Unit) ⊕ (Nat × Nat × Int × List Int) := if goodP p = true then .inr (0, (rd p).length, 0, unpk p) else .inl ()
/-- a reader of the reference -/
def QOK (off len : Nat) (at_ : Int) (o : List Int) : Prop := 0 ≤ at_ ∧ at_ ≤ len ∧ off + len ≤ o.length ∧ (o.length : Int) ≤ 1000000000000 ∧ Bits o
def cutroomref02_Reader_Left_pre (r1Off : Nat) (r1Len : Nat) (r1 : Int) (r_ : List Int) : Prop := QOK r1Off r1Len r1 r_
def cutroomref02_Reader_Left_S (r1Off : Nat) (r1Len : Nat) (r1 : Int) (r_ : List Int) : Int × Nat × Nat × Int × List Int := (r1Len - r1, r1Off, r1Len, r1, r_)
def cutroomref02_Reader_Take_L7_pre (n8 : Int) (r1Off9 : Nat) (r1Len10 : Nat) (r111 : Int) (o : List Int) (v : Int) (i : Int) : Prop :=
  QOK r1Off9 r1Len10 r111 o ∧ 0 ≤ i ∧ i ≤ n8 ∧ n8 ≤ 32 ∧ r111 + n8 ≤ r1Len10 ∧ v < 2 ^ i.toNat
def cutroomref02_Reader_Take_L7_mu (n8 : Int) (r1Off9 : Nat) (r1Len10 : Nat) (r111 : Int) (o : List Int) (v : Int) (i : Int) : Nat := (n8 - i).toNat
def cutroomref02_Reader_Take_L7_S (n8 : Int) (r1Off9 : Nat) (r1Len10 : Nat) (r111 : Int) (o : List Int) (v : Int) (i : Int) : Int :=
  v * 2 ^ (n8 - i).toNat + valOf ((o.drop (r1Off9 + (r111 + i).toNat)).take (n8 - i).toNat)
def cutroomref02_Reader_Take_pre (n : Int) (r1Off : Nat) (r1Len : Nat) (r1 : Int) (r_ : List Int) : Prop := QOK r1Off r1Len r1 r_
def cutroomref02_Reader_Take_S (n : Int) (r1Off : Nat) (r1Len : Nat) (r1 : Int) (r_ : List Int) : Int × Int × Nat × Nat × Int × List Int :=
  if n < 0 ∨ 32 < n then (0, 1, r1Off, r1Len, r1, r_) else if r1Len - r1 < n then (0, 4, r1Off, r1Len, r1, r_) else (valOf ((r_.drop (r1Off + r1.toNat)).take n.toNat), 0, r1Off, r1Len, r1 + n, r_)
def cutroomref11_TakeHeader_pre (u : D_api_Unit) : Prop := (u.2.1.length : Int) ≤ 100000000000
def cutroomref11_TakeHeader_S (u : D_api_Unit) : D_api_Pic × Int := takeHdr u
def cutroomlaw11_awake_pre  : Prop := True
def cutroomlaw11_awake_S  : Bool := true
def cutroomlaw11_PictureHeaders_pre (h : D_api_Pic) (u : D_api_Unit) : Prop := True
def cutroomlaw11_PictureHeaders_S (h : D_api_Pic) (u : D_api_Unit) : Bool := true

/-! ### what the functions behind PictureSeqs compute -/
def rational_abs_pre (x : Int) : Prop := True
def rational_abs_S (x : Int) : Int := x.natAbs
def rational_gcd_L1_pre (a1 : Int) (b2 : Int) : Prop := True
def rational_gcd_L1_mu (a1 : Int) (b2 : Int) : Nat := b2.toNat
def rational_gcd_L1_S (a1 : Int) (b2 : Int) : Int := Int.gcd a1 b2
def rational_gcd_pre (a : Int) (b : Int) : Prop := True
def rational_gcd_S (a : Int) (b : Int) : Int := Int.gcd a b
def ratOk (r : D_api_Rat) : Bool := decide (1 ≤ r.2.1 ∧ -9223372036854775807 ≤ r.1 ∧ Int.gcd r.1.natAbs r.2.1 = 1)
def rational_Valid_pre (r_ : D_api_Rat) : Prop := True
def rational_Valid_S (r_ : D_api_Rat) : Bool := ratOk r_
def minL (m : Int) (l : List Int) : Int := l.foldl (fun m x => if x < m then x else m) m
def slices_Min_byte_byte_L5_pre (x4 : List Int) (m : Int) (i : Int) : Prop := 0 ≤ i ∧ i ≤ x4.length
def slices_Min_byte_byte_L5_mu (x4 : List Int) (m : Int) (i : Int) : Nat := (x4.length - i).toNat
def slices_Min_byte_byte_L5_S (x4 : List Int) (m : Int) (i : Int) : Int := minL m (x4.drop i.toNat)
def slices_Min_byte_byte_pre (x : List Int) : Prop := 1 ≤ x.length
def slices_Min_byte_byte_S (x : List Int) : Int := minL (x.headD 0) x.tail
def matOk (m : List Int) : Bool := m.all fun x => decide (8 ≤ x)
def quant_Valid_pre (m : List Int) : Prop := True
def quant_Valid_S (m : List Int) : Bool := matOk m
def seqOk (s : D_api_Seq) : Bool := decide (16 ≤ s.1 ∧ s.1 ≤ 64 ∧ s.1 % 16 = 0 ∧ 16 ≤ s.2.1 ∧ s.2.1 ≤ 64 ∧ s.2.1 % (if s.2.2.2.1 = true then 32 else 16) = 0 ∧
  ratOk s.2.2.1 = true ∧ 1 ≤ s.2.2.1.1 ∧ s.2.2.1.1 ≤ 1048576 ∧ s.2.2.1.2.1 ≤ 65536 ∧ 1 ≤ s.2.2.2.2.1 ∧ s.2.2.2.2.1 ≤ 16777216 ∧ 1 ≤ s.2.2.2.2.2.1 ∧ s.2.2.2.2.2.1 ≤ 8388608 ∧
  2 * s.2.2.1.1 * s.2.2.2.2.2.1 ≥ 3 * s.2.2.1.2.1 * s.2.2.2.2.1 + 32 * s.2.2.1.1 ∧ matOk s.2.2.2.2.2.2.1 = true ∧ matOk s.2.2.2.2.2.2.2.1 = true)
def picture_ValidSeq_pre (s : D_api_Seq) : Prop := True
def picture_ValidSeq_S (s : D_api_Seq) : Bool := seqOk s
def cutroomref01_mag_pre (x : Int) : Prop := True
def cutroomref01_mag_S (x : Int) : Int := x.natAbs
def cutroomref01_gcd_L1_pre (a1 : Int) (b2 : Int) : Prop := True
def cutroomref01_gcd_L1_mu (a1 : Int) (b2 : Int) : Nat := b2.toNat
def cutroomref01_gcd_L1_S (a1 : Int) (b2 : Int) : Int := Int.gcd a1 b2
def cutroomref01_gcd_pre (a : Int) (b : Int) : Prop := True
def cutroomref01_gcd_S (a : Int) (b : Int) : Int := Int.gcd a b
def cutroomref01_Valid_pre (r_ : D_api_Rat) : Prop := True
def cutroomref01_Valid_S (r_ : D_api_Rat) : Bool := ratOk r_
def cutroomref06_Valid_L2_pre (m1 : List Int) (k_ : Int) : Prop := 0 ≤ k_ ∧ k_ ≤ 64
def cutroomref06_Valid_L2_mu (m1 : List Int) (k_ : Int) : Nat := (64 - k_).toNat
def cutroomref06_Valid_L2_S (m1 : List Int) (k_ : Int) : (Bool) ⊕ (Unit) := if matOk (m1.drop k_.toNat) = true then .inr () else .inl false
def cutroomref06_Valid_pre (m : List Int) : Prop := True
def cutroomref06_Valid_S (m : List Int) : Bool := matOk m
def cutroomref11_ValidSeq_pre (s : D_api_Seq) : Prop := True
def cutroomref11_ValidSeq_S (s : D_api_Seq) : Bool := seqOk s
def hdrFits (s : D_api_Seq) (h : D_api_Pic) : Bool := seqOk s && picOk h && (s.2.2.2.1 || (h.2.1 == 3 && h.2.2.2.1 && !h.2.2.2.2.1))
def picture_Valid_pre (s : D_api_Seq) (h : D_api_Pic) : Prop := True
def picture_Valid_S (s : D_api_Seq) (h : D_api_Pic) : Bool := hdrFits s h
def cutroomref11_Valid_pre (s : D_api_Seq) (h : D_api_Pic) : Prop := True
def cutroomref11_Valid_S (s : D_api_Seq) (h : D_api_Pic) : Bool := hdrFits s h
def rowsOf (s : D_api_Seq) (h : D_api_Pic) : Int := if hdrFits s h = true then (if h.2.1 = 3 then s.2.1 / 16 else s.2.1 / 32) else 0
def picture_Rows_pre (s : D_api_Seq) (h : D_api_Pic) : Prop := True
def picture_Rows_S (s : D_api_Seq) (h : D_api_Pic) : Int := rowsOf s h
def cutroomref11_Rows_pre (s : D_api_Seq) (h : D_api_Pic) : Prop := True
def cutroomref11_Rows_S (s : D_api_Seq) (h : D_api_Pic) : Int := rowsOf s h
def cutroomlaw11_PictureSeqs_pre (s : D_api_Seq) (h : D_api_Pic) : Prop := True
def cutroomlaw11_PictureSeqs_S (s : D_api_Seq) (h : D_api_Pic) : Bool := true

noncomputable def picture_coded_F {R : Type} (k : Bool → (Option R)) (h : D_api_Pic) : Option R :=
  if (decide (h.1 ≥ 1)) = true then
    if (decide (h.1 ≤ 3)) = true then
      if (decide (h.2.1 ≥ 1)) = true then
        if (decide (h.2.1 ≤ 3)) = true then
          if (decide (h.2.2.1 ≥ 0)) = true then
            k (decide (h.2.2.1 ≤ 1023))
          else
            k false
        else
          k false
      else
        k false
    else
      k false
  else
    k false
def picture_coded_Obl (pre : D_api_Pic → Prop) (S : D_api_Pic → (Bool)) : Prop :=
  ∀ (h : D_api_Pic) (_ : okT T_api_Pic h), pre h →
  ∀ {R : Type} (k : Bool → (Option R)) (Good : Option R → Prop), Good (k ((S h))) → Good (picture_coded_F k h)
noncomputable def bitio_NewWriter_F {R : Type} (k : Int → (List Int) → (Option R))  : Option R :=
  k 0 []
def bitio_NewWriter_Obl (pre : Prop) (S : ((Int × List Int))) : Prop :=
   pre  →
  ∀ {R : Type} (k : Int → (List Int) → (Option R)) (Good : Option R → Prop), Good (k (S.1) (S.2)) → Good (bitio_NewWriter_F k )
noncomputable def picture_bit_F {R : Type} (k : Int → (Option R)) (b : Bool) : Option R :=
  if b = true then
    k 1
  else
    k 0
def picture_bit_Obl (pre : Bool → Prop) (S : Bool → (Int)) : Prop :=
  ∀ (b : Bool) (_ : okT .bool b), pre b →
  ∀ {R : Type} (k : Int → (Option R)) (Good : Option R → Prop), Good (k ((S b))) → Good (picture_bit_F k b)
noncomputable def bitio_Writer_Put_L6_T {R : Type} (v5 : Int) (n6 : Int) (x7 : Int) (rec : Int → Int → (List Int) → (Option R)) (ex : Int → (List Int) → (Option R)) (x8 : Int) (w19 : Int) (o : List Int) : Option R :=
  if (decide (x8 < x7)) = true then
    if ((w19.tmod 8) == 0) = true then
      if 0 < 1 ∧ (o.length + [0].length) * 1 ≤ room then
        lett (wi64 ((wi64 (n6 - 1)) - x8)) fun x15 =>
        if x15 < 0 then
          none
        else
          lett (wi64 (w19.tdiv 8)) fun x19 =>
          if (0 : Int) ≤ x19 ∧ x19 < ((o ++ [0]).length : Int) then
            lett (wi64 (7 - (w19.tmod 8))) fun x22 =>
            if x22 < 0 then
              none
            else
              if (0 : Int) ≤ x19 ∧ x19 < ((o ++ [0]).length : Int) then
                rec (wi64 (x8 + 1)) (wi64 (w19 + 1)) ((o ++ [0]).set x19.toNat (bor .u8 ((o ++ [0]).getD x19.toNat 0) (bshl .u8 (wu8 (band .u32 (bshr .u32 v5 x15) 1)) x22)))
              else
                none
          else
            none
      else
        none
    else
      lett (wi64 ((wi64 (n6 - 1)) - x8)) fun x28 =>
      if x28 < 0 then
        none
      else
        lett (wi64 (w19.tdiv 8)) fun x32 =>
        if (0 : Int) ≤ x32 ∧ x32 < (o.length : Int) then
          lett (wi64 (7 - (w19.tmod 8))) fun x35 =>
          if x35 < 0 then
            none
          else
            if (0 : Int) ≤ x32 ∧ x32 < (o.length : Int) then
              rec (wi64 (x8 + 1)) (wi64 (w19 + 1)) (o.set x32.toNat (bor .u8 (o.getD x32.toNat 0) (bshl .u8 (wu8 (band .u32 (bshr .u32 v5 x28) 1)) x35)))
            else
              none
        else
          none
  else
    ex w19 o
def bitio_Writer_Put_L6_Obl (pre : Int → Int → Int → Int → Int → (List Int) → Prop) (mu : Int → Int → Int → Int → Int → (List Int) → Nat) (S : Int → Int → Int → Int → Int → (List Int) → ((Int × List Int))) : Prop :=
  ∀ (v5 : Int) (n6 : Int) (x7 : Int) (x8 : Int) (w19 : Int) (o : List Int) (_ : okT (.int .u32) v5) (_ : okT (.int .i64) n6) (_ : okT (.int .i64) x7) (_ : okT (.int .i64) x8) (_ : okT (.int .i64) w19) (_ : okT (.sl (.int .u8)) o),
  pre v5 n6 x7 x8 w19 o →
  ∀ {R : Type} (rec : Int → Int → (List Int) → (Option R)) (ex : Int → (List Int) → (Option R)) (Good : Option R → Prop),
  (∀ (x8' : Int) (w19' : Int) (o' : List Int), pre v5 n6 x7 x8' w19' o' → mu v5 n6 x7 x8' w19' o' < mu v5 n6 x7 x8 w19 o → S v5 n6 x7 x8' w19' o' = S v5 n6 x7 x8 w19 o → Good (rec x8' w19' o')) →
  (∀ y0 y1, S v5 n6 x7 x8 w19 o = (y0, y1) → Good (ex y0 y1)) →
  Good (bitio_Writer_Put_L6_T v5 n6 x7 rec ex x8 w19 o)

noncomputable def bitio_Writer_Put_F {R : Type} (k : Int → Int → (List Int) → (Option R)) (v : Int) (n : Int) (w1 : Int) (w : List Int) : Option R :=
  if (decide (n < 0)) = true then
    k 1 w1 w
  else
    if (decide (n > 32)) = true then
      k 1 w1 w
    else
      if n < 0 then
        none
      else
        if (decide ((bshr .u64 (wu64 v) n) > 0)) = true then
          k 2 w1 w
        else
          need (bitio_Writer_Put_L6_pre v n n 0 w1 w) <|
          lett (bitio_Writer_Put_L6_S v n n 0 w1 w) fun res1 =>
          k 0 res1.1 res1.2
def bitio_Writer_Put_Obl (pre : Int → Int → Int → (List Int) → Prop) (S : Int → Int → Int → (List Int) → ((Int × Int × List Int))) : Prop :=
  ∀ (v : Int) (n : Int) (w1 : Int) (w : List Int) (_ : okT (.int .u32) v) (_ : okT (.int .i64) n) (_ : okT (.int .i64) w1) (_ : okT (.sl (.int .u8)) w), pre v n w1 w →
  ∀ {R : Type} (k : Int → Int → (List Int) → (Option R)) (Good : Option R → Prop), Good (k ((S v n w1 w).1) ((S v n w1 w).2.1) ((S v n w1 w).2.2)) → Good (bitio_Writer_Put_F k v n w1 w)
def slices_Clone_byte_byte_pre (s : List Int) : Prop := s.length * 1 ≤ room
def slices_Clone_byte_byte_S (s : List Int) : List Int := s
noncomputable def bitio_Writer_Payload_F {R : Type} (k : Int → (List Int) → (List Int) → (Option R)) (w1 : Int) (w : List Int) : Option R :=
  if ((w1.tmod 8) == 0) = true then
    need (slices_Clone_byte_byte_pre w) <|
    lett (slices_Clone_byte_byte_S w) fun s =>
    if 0 < 1 ∧ (s.length + [128].length) * 1 ≤ room then
      k w1 w (s ++ [128])
    else
      none
  else
    need (slices_Clone_byte_byte_pre w) <|
    lett (slices_Clone_byte_byte_S w) fun s2 =>
    lett (wi64 ((s2.length : Int) - 1)) fun x4 =>
    if (0 : Int) ≤ x4 ∧ x4 < (s2.length : Int) then
      lett (wi64 (7 - (w1.tmod 8))) fun x7 =>
      if x7 < 0 then
        none
      else
        if (0 : Int) ≤ x4 ∧ x4 < (s2.length : Int) then
          k w1 w (s2.set x4.toNat (bor .u8 (s2.getD x4.toNat 0) (bshl .u8 1 x7)))
        else
          none
    else
      none
def bitio_Writer_Payload_Obl (pre : Int → (List Int) → Prop) (S : Int → (List Int) → ((Int × List Int × List Int))) : Prop :=
  ∀ (w1 : Int) (w : List Int) (_ : okT (.int .i64) w1) (_ : okT (.sl (.int .u8)) w), pre w1 w →
  ∀ {R : Type} (k : Int → (List Int) → (List Int) → (Option R)) (Good : Option R → Prop), Good (k ((S w1 w).1) ((S w1 w).2.1) ((S w1 w).2.2)) → Good (bitio_Writer_Payload_F k w1 w)
noncomputable def picture_PutHeader_L5_T {R : Type} (x15 : Int) (o17 : D_api_Unit) (o19 : List (Int × Int × Unit)) (rec : Int → Int → (List Int) → (Option R)) (ex0 : Int → D_api_Unit → (Option R)) (ex1 : Int → (List Int) → (Option R)) (x16 : Int) (w1 : Int) (o18 : List Int) : Option R :=
  if (decide (x16 < x15)) = true then
    if (0 : Int) ≤ x16 ∧ x16 < (o19.length : Int) then
      lett (o19.getD x16.toNat (0, (0, ()))) fun x21 =>
      need (bitio_Writer_Put_pre x21.1 x21.2.1 w1 o18) <|
      lett (bitio_Writer_Put_S x21.1 x21.2.1 w1 o18) fun res1 =>
      if (res1.1 != 0) = true then
        ex0 res1.1 (0, ([], ()))
      else
        rec (wi64 (x16 + 1)) res1.2.1 res1.2.2
    else
      none
  else
    ex1 w1 o18
def picture_PutHeader_L5_Obl (pre : Int → D_api_Unit → (List (Int × Int × Unit)) → Int → Int → (List Int) → Prop) (mu : Int → D_api_Unit → (List (Int × Int × Unit)) → Int → Int → (List Int) → Nat) (S : Int → D_api_Unit → (List (Int × Int × Unit)) → Int → Int → (List Int) → (((Int × D_api_Unit) ⊕ (Int × List Int)))) : Prop :=
  ∀ (x15 : Int) (o17 : D_api_Unit) (o19 : List (Int × Int × Unit)) (x16 : Int) (w1 : Int) (o18 : List Int) (_ : okT (.int .i64) x15) (_ : okT (.int .i64) x16) (_ : okT T_api_Unit o17) (_ : okT (.int .i64) w1) (_ : okT (.sl (.int .u8)) o18) (_ : okT (.sl (.pair (.int .u32) (.pair (.int .i64) .unit))) o19),
  pre x15 o17 o19 x16 w1 o18 →
  ∀ {R : Type} (rec : Int → Int → (List Int) → (Option R)) (ex0 : Int → D_api_Unit → (Option R)) (ex1 : Int → (List Int) → (Option R)) (Good : Option R → Prop),
  (∀ (x16' : Int) (w1' : Int) (o18' : List Int), pre x15 o17 o19 x16' w1' o18' → mu x15 o17 o19 x16' w1' o18' < mu x15 o17 o19 x16 w1 o18 → S x15 o17 o19 x16' w1' o18' = S x15 o17 o19 x16 w1 o18 → Good (rec x16' w1' o18')) →
  (∀ y0 y1, S x15 o17 o19 x16 w1 o18 = (.inl (y0, y1)) → Good (ex0 y0 y1)) →
  (∀ y0 y1, S x15 o17 o19 x16 w1 o18 = (.inr (y0, y1)) → Good (ex1 y0 y1)) →
  Good (picture_PutHeader_L5_T x15 o17 o19 rec ex0 ex1 x16 w1 o18)

noncomputable def picture_PutHeader_F {R : Type} (k : D_api_Unit → Int → (Option R)) (h : D_api_Pic) : Option R :=
  need (picture_coded_pre h) <|
  lett (picture_coded_S h) fun r_ =>
  if (!r_) = true then
    k (0, ([], ())) 2
  else
    need (bitio_NewWriter_pre) <|
    lett (bitio_NewWriter_S) fun res1 =>
    lett (((wu32 h.2.2.1), (10, ()))) fun x3 =>
    lett (((wu32 h.1), (2, ()))) fun x5 =>
    lett (((wu32 h.2.1), (2, ()))) fun x7 =>
    need (picture_bit_pre h.2.2.2.1) <|
    lett (picture_bit_S h.2.2.2.1) fun r8 =>
    need (picture_bit_pre h.2.2.2.2.1) <|
    lett (picture_bit_S h.2.2.2.2.1) fun r10 =>
    need (picture_bit_pre h.2.2.2.2.2.1) <|
    lett (picture_bit_S h.2.2.2.2.2.1) fun r12 =>
    lett (([x3, x5, x7, (r8, (1, ())), (r10, (1, ())), (r12, (1, ()))].length : Int)) fun x14 =>
    need (picture_PutHeader_L5_pre x14 Z_api_Unit [x3, x5, x7, (r8, (1, ())), (r10, (1, ())), (r12, (1, ()))] 0 res1.1 res1.2) <|
    caseS (picture_PutHeader_L5_S x14 Z_api_Unit [x3, x5, x7, (r8, (1, ())), (r10, (1, ())), (r12, (1, ()))] 0 res1.1 res1.2)
      (fun res2 =>
        k res2.2 res2.1
      )
      (fun res3 =>
        need (bitio_Writer_Payload_pre res3.1 res3.2) <|
        lett (bitio_Writer_Payload_S res3.1 res3.2) fun res4 =>
        k (181, (res4.2.2, ())) 0
      )
def picture_PutHeader_Obl (pre : D_api_Pic → Prop) (S : D_api_Pic → ((D_api_Unit × Int))) : Prop :=
  ∀ (h : D_api_Pic) (_ : okT T_api_Pic h), pre h →
  ∀ {R : Type} (k : D_api_Unit → Int → (Option R)) (Good : Option R → Prop), Good (k ((S h).1) ((S h).2)) → Good (picture_PutHeader_F k h)
noncomputable def cutroomref11_header_F {R : Type} (k : Bool → (Option R)) (h : D_api_Pic) : Option R :=
  if (decide (h.2.2.1 ≥ 0)) = true then
    if (decide (h.2.2.1 ≤ 1023)) = true then
      if (decide (h.1 ≥ 1)) = true then
        if (decide (h.1 ≤ 3)) = true then
          if (decide (h.2.1 ≥ 1)) = true then
            k (decide (h.2.1 ≤ 3))
          else
            k false
        else
          k false
      else
        k false
    else
      k false
  else
    k false
def cutroomref11_header_Obl (pre : D_api_Pic → Prop) (S : D_api_Pic → (Bool)) : Prop :=
  ∀ (h : D_api_Pic) (_ : okT T_api_Pic h), pre h →
  ∀ {R : Type} (k : Bool → (Option R)) (Good : Option R → Prop), Good (k ((S h))) → Good (cutroomref11_header_F k h)
noncomputable def cutroomref02_Bits_L3_T {R : Type} (v1 : Int) (rec : Int → (List Int) → (Option R)) (ex : (List Int) → (Option R)) (i : Int) (out : List Int) : Option R :=
  if (decide (i ≥ 0)) = true then
    if (wu64 i) < 0 then
      none
    else
      lett (wu8 (band .u32 (bshr .u32 v1 (wu64 i)) 1)) fun x6 =>
      if 0 < 1 ∧ (out.length + [x6].length) * 1 ≤ room then
        rec (wi64 (i - 1)) (out ++ [x6])
      else
        none
  else
    ex out
def cutroomref02_Bits_L3_Obl (pre : Int → Int → (List Int) → Prop) (mu : Int → Int → (List Int) → Nat) (S : Int → Int → (List Int) → ((List Int))) : Prop :=
  ∀ (v1 : Int) (i : Int) (out : List Int) (_ : okT (.int .u32) v1) (_ : okT (.int .i64) i) (_ : okT (.sl (.int .u8)) out),
  pre v1 i out →
  ∀ {R : Type} (rec : Int → (List Int) → (Option R)) (ex : (List Int) → (Option R)) (Good : Option R → Prop),
  (∀ (i' : Int) (out' : List Int), pre v1 i' out' → mu v1 i' out' < mu v1 i out → S v1 i' out' = S v1 i out → Good (rec i' out')) →
  (∀ y0, S v1 i out = y0 → Good (ex y0)) →
  Good (cutroomref02_Bits_L3_T v1 rec ex i out)

noncomputable def cutroomref02_Bits_F {R : Type} (k : (List Int) → (Option R)) (v : Int) (n : Int) : Option R :=
  need (cutroomref02_Bits_L3_pre v (wi64 (n - 1)) []) <|
  lett (cutroomref02_Bits_L3_S v (wi64 (n - 1)) []) fun out9 =>
  k out9
def cutroomref02_Bits_Obl (pre : Int → Int → Prop) (S : Int → Int → ((List Int))) : Prop :=
  ∀ (v : Int) (n : Int) (_ : okT (.int .u32) v) (_ : okT (.int .i64) n), pre v n →
  ∀ {R : Type} (k : (List Int) → (Option R)) (Good : Option R → Prop), Good (k ((S v n))) → Good (cutroomref02_Bits_F k v n)
noncomputable def cutroomref11_bit_F {R : Type} (k : Int → (Option R)) (b : Bool) : Option R :=
  if b = true then
    k 1
  else
    k 0
def cutroomref11_bit_Obl (pre : Bool → Prop) (S : Bool → (Int)) : Prop :=
  ∀ (b : Bool) (_ : okT .bool b), pre b →
  ∀ {R : Type} (k : Int → (Option R)) (Good : Option R → Prop), Good (k ((S b))) → Good (cutroomref11_bit_F k b)
noncomputable def cutroomref02_Payload_L3_T {R : Type} (l3 : List Int) (rec : Int → (List Int) → (Option R)) (ex : (List Int) → (Option R)) (i : Int) (out : List Int) : Option R :=
  if (decide (i ≤ (l3.length : Int))) = true then
    if (i == (l3.length : Int)) = true then
      lett (wi64 (i.tdiv 8)) fun x10 =>
      if (0 : Int) ≤ x10 ∧ x10 < (out.length : Int) then
        lett (wu64 (i.tmod 8)) fun x13 =>
        if x13 < 0 then
          none
        else
          if (0 : Int) ≤ x10 ∧ x10 < (out.length : Int) then
            rec (wi64 (i + 1)) (out.set x10.toNat (bor .u8 (out.getD x10.toNat 0) (bshr .u8 128 x13)))
          else
            none
      else
        none
    else
      if (0 : Int) ≤ i ∧ i < (l3.length : Int) then
        if ((l3.getD i.toNat 0) == 1) = true then
          lett (wi64 (i.tdiv 8)) fun x17 =>
          if (0 : Int) ≤ x17 ∧ x17 < (out.length : Int) then
            lett (wu64 (i.tmod 8)) fun x20 =>
            if x20 < 0 then
              none
            else
              if (0 : Int) ≤ x17 ∧ x17 < (out.length : Int) then
                rec (wi64 (i + 1)) (out.set x17.toNat (bor .u8 (out.getD x17.toNat 0) (bshr .u8 128 x20)))
              else
                none
          else
            none
        else
          rec (wi64 (i + 1)) out
      else
        none
  else
    ex out
def cutroomref02_Payload_L3_Obl (pre : (List Int) → Int → (List Int) → Prop) (mu : (List Int) → Int → (List Int) → Nat) (S : (List Int) → Int → (List Int) → ((List Int))) : Prop :=
  ∀ (l3 : List Int) (i : Int) (out : List Int) (_ : okT (.sl (.int .u8)) l3) (_ : okT (.int .i64) i) (_ : okT (.sl (.int .u8)) out),
  pre l3 i out →
  ∀ {R : Type} (rec : Int → (List Int) → (Option R)) (ex : (List Int) → (Option R)) (Good : Option R → Prop),
  (∀ (i' : Int) (out' : List Int), pre l3 i' out' → mu l3 i' out' < mu l3 i out → S l3 i' out' = S l3 i out → Good (rec i' out')) →
  (∀ y0, S l3 i out = y0 → Good (ex y0)) →
  Good (cutroomref02_Payload_L3_T l3 rec ex i out)

noncomputable def cutroomref02_Payload_F {R : Type} (k : (List Int) → (Option R)) (l : List Int) : Option R :=
  lett (wi64 ((wi64 ((l.length : Int).tdiv 8)) + 1)) fun x2 =>
  if 0 ≤ x2 ∧ x2 ≤ x2 ∧ x2 * 1 ≤ (room : Int) then
    need (cutroomref02_Payload_L3_pre l 0 (List.replicate x2.toNat 0)) <|
    lett (cutroomref02_Payload_L3_S l 0 (List.replicate x2.toNat 0)) fun out27 =>
    k out27
  else
    none
def cutroomref02_Payload_Obl (pre : (List Int) → Prop) (S : (List Int) → ((List Int))) : Prop :=
  ∀ (l : List Int) (_ : okT (.sl (.int .u8)) l), pre l →
  ∀ {R : Type} (k : (List Int) → (Option R)) (Good : Option R → Prop), Good (k ((S l))) → Good (cutroomref02_Payload_F k l)
noncomputable def cutroomref11_PutHeader_F {R : Type} (k : D_api_Unit → Int → (Option R)) (h : D_api_Pic) : Option R :=
  need (cutroomref11_header_pre h) <|
  lett (cutroomref11_header_S h) fun r_ =>
  if (!r_) = true then
    k (0, ([], ())) 2
  else
    need (cutroomref02_Bits_pre (wu32 h.2.2.1) 10) <|
    lett (cutroomref02_Bits_S (wu32 h.2.2.1) 10) fun o =>
    need (cutroomref02_Bits_pre (wu32 h.1) 2) <|
    lett (cutroomref02_Bits_S (wu32 h.1) 2) fun o4 =>
    if 0 < 1 ∧ (o.length + o4.length) * 1 ≤ room then
      need (cutroomref02_Bits_pre (wu32 h.2.1) 2) <|
      lett (cutroomref02_Bits_S (wu32 h.2.1) 2) fun o6 =>
      if 0 < 1 ∧ ((o ++ o4).length + o6.length) * 1 ≤ room then
        lett ((o ++ o4) ++ o6) fun l7 =>
        need (cutroomref11_bit_pre h.2.2.2.1) <|
        lett (cutroomref11_bit_S h.2.2.2.1) fun r8 =>
        need (cutroomref11_bit_pre h.2.2.2.2.1) <|
        lett (cutroomref11_bit_S h.2.2.2.2.1) fun r10 =>
        need (cutroomref11_bit_pre h.2.2.2.2.2.1) <|
        lett (cutroomref11_bit_S h.2.2.2.2.2.1) fun r12 =>
        if 0 < 1 ∧ (l7.length + [(wu8 r8), (wu8 r10), (wu8 r12)].length) * 1 ≤ room then
          lett (l7 ++ [(wu8 r8), (wu8 r10), (wu8 r12)]) fun l14 =>
          need (cutroomref02_Payload_pre l14) <|
          lett (cutroomref02_Payload_S l14) fun o15 =>
          k (181, (o15, ())) 0
        else
          none
      else
        none
    else
      none
def cutroomref11_PutHeader_Obl (pre : D_api_Pic → Prop) (S : D_api_Pic → ((D_api_Unit × Int))) : Prop :=
  ∀ (h : D_api_Pic) (_ : okT T_api_Pic h), pre h →
  ∀ {R : Type} (k : D_api_Unit → Int → (Option R)) (Good : Option R → Prop), Good (k ((S h).1) ((S h).2)) → Good (cutroomref11_PutHeader_F k h)
noncomputable def cutroomref02_SameBytes_F {R : Type} (k : Bool → (Option R)) (a : List Int) (b : List Int) : Option R :=
  k ((strL a).toList == (strL b).toList)
def cutroomref02_SameBytes_Obl (pre : (List Int) → (List Int) → Prop) (S : (List Int) → (List Int) → (Bool)) : Prop :=
  ∀ (a : List Int) (b : List Int) (_ : okT (.sl (.int .u8)) a) (_ : okT (.sl (.int .u8)) b), pre a b →
  ∀ {R : Type} (k : Bool → (Option R)) (Good : Option R → Prop), Good (k ((S a b))) → Good (cutroomref02_SameBytes_F k a b)
noncomputable def cutroomref03_SameUnit_F {R : Type} (k : Bool → (Option R)) (a : D_api_Unit) (b : D_api_Unit) : Option R :=
  if (a.1 == b.1) = true then
    need (cutroomref02_SameBytes_pre a.2.1 b.2.1) <|
    lett (cutroomref02_SameBytes_S a.2.1 b.2.1) fun r_ =>
    k r_
  else
    k false
def cutroomref03_SameUnit_Obl (pre : D_api_Unit → D_api_Unit → Prop) (S : D_api_Unit → D_api_Unit → (Bool)) : Prop :=
  ∀ (a : D_api_Unit) (b : D_api_Unit) (_ : okT T_api_Unit a) (_ : okT T_api_Unit b), pre a b →
  ∀ {R : Type} (k : Bool → (Option R)) (Good : Option R → Prop), Good (k ((S a b))) → Good (cutroomref03_SameUnit_F k a b)
noncomputable def bitio_NewReader_L6_T {R : Type} (payload9 : List Int) (rec : Int → Int → (Option R)) (ex : Int → (Option R)) (end_ : Int) (last : Int) : Option R :=
  if ((band .u8 last 1) == 0) = true then
    rec (wi64 (end_ - 1)) (bshr .u8 last 1)
  else
    ex end_
def bitio_NewReader_L6_Obl (pre : (List Int) → Int → Int → Prop) (mu : (List Int) → Int → Int → Nat) (S : (List Int) → Int → Int → (Int)) : Prop :=
  ∀ (payload9 : List Int) (end_ : Int) (last : Int) (_ : okT (.sl (.int .u8)) payload9) (_ : okT (.int .i64) end_) (_ : okT (.int .u8) last),
  pre payload9 end_ last →
  ∀ {R : Type} (rec : Int → Int → (Option R)) (ex : Int → (Option R)) (Good : Option R → Prop),
  (∀ (end_' : Int) (last' : Int), pre payload9 end_' last' → mu payload9 end_' last' < mu payload9 end_ last → S payload9 end_' last' = S payload9 end_ last → Good (rec end_' last')) →
  (∀ y0, S payload9 end_ last = y0 → Good (ex y0)) →
  Good (bitio_NewReader_L6_T payload9 rec ex end_ last)

noncomputable def bitio_NewReader_F {R : Type} (k0 : Unit → (Option R)) (k1 : Int → Int → (List Int) → (Option R)) (payload : List Int) : Option R :=
  lett ((payload.length : Int)) fun x =>
  if (x == 0) = true then
    k0 ()
  else
    if (0 : Int) ≤ (wi64 (x - 1)) ∧ (wi64 (x - 1)) < (payload.length : Int) then
      if ((payload.getD (wi64 (x - 1)).toNat 0) == 0) = true then
        k0 ()
      else
        lett (wi64 ((wi64 (8 * x)) - 1)) fun x6 =>
        if (0 : Int) ≤ (wi64 (x - 1)) ∧ (wi64 (x - 1)) < (payload.length : Int) then
          lett (payload.getD (wi64 (x - 1)).toNat 0) fun x8 =>
          need (bitio_NewReader_L6_pre payload x6 x8) <|
          lett (bitio_NewReader_L6_S payload x6 x8) fun end14 =>
          need (slices_Clone_byte_byte_pre payload) <|
          lett (slices_Clone_byte_byte_S payload) fun s =>
          k1 0 end14 s
        else
          none
    else
      none
def bitio_NewReader_Obl (pre : (List Int) → Prop) (S : (List Int) → (((Unit) ⊕ (Int × Int × List Int)))) : Prop :=
  ∀ (payload : List Int) (_ : okT (.sl (.int .u8)) payload), pre payload →
  ∀ {R : Type} (k0 : Unit → (Option R)) (k1 : Int → Int → (List Int) → (Option R)) (Good : Option R → Prop),
  (S payload = (.inl ()) → Good (k0 ())) →
  (∀ y0 y1 y2, S payload = (.inr (y0, y1, y2)) → Good (k1 y0 y1 y2)) →
  Good (bitio_NewReader_F k0 k1 payload)
noncomputable def bitio_Reader_Take_L7_T {R : Type} (x5 : Int) (r18 : Int) (o : List Int) (rec : Int → Int → Int → (Option R)) (ex : Int → Int → (Option R)) (v : Int) (x6 : Int) (r17 : Int) : Option R :=
  if (decide (x6 < x5)) = true then
    lett (wi64 (r17.tdiv 8)) fun x10 =>
    if (0 : Int) ≤ x10 ∧ x10 < (o.length : Int) then
      lett (wi64 (7 - (r17.tmod 8))) fun x13 =>
      if x13 < 0 then
        none
      else
        rec (bor .u32 (bshl .u32 v 1) (wu32 (band .u8 (bshr .u8 (o.getD x10.toNat 0) x13) 1))) (wi64 (x6 + 1)) (wi64 (r17 + 1))
    else
      none
  else
    ex v r17
def bitio_Reader_Take_L7_Obl (pre : Int → Int → (List Int) → Int → Int → Int → Prop) (mu : Int → Int → (List Int) → Int → Int → Int → Nat) (S : Int → Int → (List Int) → Int → Int → Int → ((Int × Int))) : Prop :=
  ∀ (x5 : Int) (r18 : Int) (o : List Int) (v : Int) (x6 : Int) (r17 : Int) (_ : okT (.int .u32) v) (_ : okT (.int .i64) x5) (_ : okT (.int .i64) x6) (_ : okT (.int .i64) r17) (_ : okT (.int .i64) r18) (_ : okT (.sl (.int .u8)) o),
  pre x5 r18 o v x6 r17 →
  ∀ {R : Type} (rec : Int → Int → Int → (Option R)) (ex : Int → Int → (Option R)) (Good : Option R → Prop),
  (∀ (v' : Int) (x6' : Int) (r17' : Int), pre x5 r18 o v' x6' r17' → mu x5 r18 o v' x6' r17' < mu x5 r18 o v x6 r17 → S x5 r18 o v' x6' r17' = S x5 r18 o v x6 r17 → Good (rec v' x6' r17')) →
  (∀ y0 y1, S x5 r18 o v x6 r17 = (y0, y1) → Good (ex y0 y1)) →
  Good (bitio_Reader_Take_L7_T x5 r18 o rec ex v x6 r17)

noncomputable def bitio_Reader_Take_F {R : Type} (k : Int → Int → Int → Int → (List Int) → (Option R)) (n : Int) (r1 : Int) (r11 : Int) (r_ : List Int) : Option R :=
  if (decide (n < 0)) = true then
    k 0 1 r1 r11 r_
  else
    if (decide (n > 32)) = true then
      k 0 1 r1 r11 r_
    else
      if (decide (n > (wi64 (r11 - r1)))) = true then
        k 0 4 r1 r11 r_
      else
        need (bitio_Reader_Take_L7_pre n r11 r_ 0 0 r1) <|
        lett (bitio_Reader_Take_L7_S n r11 r_ 0 0 r1) fun res1 =>
        k res1.1 0 res1.2 r11 r_
def bitio_Reader_Take_Obl (pre : Int → Int → Int → (List Int) → Prop) (S : Int → Int → Int → (List Int) → ((Int × Int × Int × Int × List Int))) : Prop :=
  ∀ (n : Int) (r1 : Int) (r11 : Int) (r_ : List Int) (_ : okT (.int .i64) n) (_ : okT (.int .i64) r1) (_ : okT (.int .i64) r11) (_ : okT (.sl (.int .u8)) r_), pre n r1 r11 r_ →
  ∀ {R : Type} (k : Int → Int → Int → Int → (List Int) → (Option R)) (Good : Option R → Prop), Good (k ((S n r1 r11 r_).1) ((S n r1 r11 r_).2.1) ((S n r1 r11 r_).2.2.1) ((S n r1 r11 r_).2.2.2.1) ((S n r1 r11 r_).2.2.2.2)) → Good (bitio_Reader_Take_F k n r1 r11 r_)
noncomputable def picture_TakeHeader_1_F {R : Type} (k : Int → Int → Int → (List Int) → (Option R)) (n : Int) (o1 : Int) (o11 : Int) (o : List Int) : Option R :=
  need (bitio_Reader_Take_pre n o1 o11 o) <|
  lett (bitio_Reader_Take_S n o1 o11 o) fun res1 =>
  k (wi64 res1.1) res1.2.2.1 res1.2.2.2.1 res1.2.2.2.2
def picture_TakeHeader_1_Obl (pre : Int → Int → Int → (List Int) → Prop) (S : Int → Int → Int → (List Int) → ((Int × Int × Int × List Int))) : Prop :=
  ∀ (n : Int) (o1 : Int) (o11 : Int) (o : List Int) (_ : okT (.int .i64) n) (_ : okT (.int .i64) o1) (_ : okT (.int .i64) o11) (_ : okT (.sl (.int .u8)) o), pre n o1 o11 o →
  ∀ {R : Type} (k : Int → Int → Int → (List Int) → (Option R)) (Good : Option R → Prop), Good (k ((S n o1 o11 o).1) ((S n o1 o11 o).2.1) ((S n o1 o11 o).2.2.1) ((S n o1 o11 o).2.2.2)) → Good (picture_TakeHeader_1_F k n o1 o11 o)
noncomputable def bytes_Equal_F {R : Type} (k : Bool → (Option R)) (a : List Int) (b : List Int) : Option R :=
  k ((strL a).toList == (strL b).toList)
def bytes_Equal_Obl (pre : (List Int) → (List Int) → Prop) (S : (List Int) → (List Int) → (Bool)) : Prop :=
  ∀ (a : List Int) (b : List Int) (_ : okT (.sl (.int .u8)) a) (_ : okT (.sl (.int .u8)) b), pre a b →
  ∀ {R : Type} (k : Bool → (Option R)) (Good : Option R → Prop), Good (k ((S a b))) → Good (bytes_Equal_F k a b)
noncomputable def picture_TakeHeader_J2_T {R : Type} (ex : Int → D_api_Pic → (Option R)) (e : Int) (u2 : D_api_Unit) (o3 : D_api_Pic) (o14 : Int) (o15 : Int) (o6 : List Int) : Option R :=
  if (e != 0) = true then
    ex 3 (0, (0, (0, (false, (false, (false, ()))))))
  else
    if (u2.1 != 181) = true then
      ex 3 (0, (0, (0, (false, (false, (false, ()))))))
    else
      need (picture_TakeHeader_1_pre 10 o14 o15 o6) <|
      lett (picture_TakeHeader_1_S 10 o14 o15 o6) fun res1 =>
      need (picture_TakeHeader_1_pre 2 res1.2.1 res1.2.2.1 res1.2.2.2) <|
      lett (picture_TakeHeader_1_S 2 res1.2.1 res1.2.2.1 res1.2.2.2) fun res2 =>
      need (picture_TakeHeader_1_pre 2 res2.2.1 res2.2.2.1 res2.2.2.2) <|
      lett (picture_TakeHeader_1_S 2 res2.2.1 res2.2.2.1 res2.2.2.2) fun res3 =>
      lett ((res2.1, (res3.1, (res1.1, (false, (false, (false, ()))))))) fun x21 =>
      need (picture_TakeHeader_1_pre 1 res3.2.1 res3.2.2.1 res3.2.2.2) <|
      lett (picture_TakeHeader_1_S 1 res3.2.1 res3.2.2.1 res3.2.2.2) fun res4 =>
      need (picture_TakeHeader_1_pre 1 res4.2.1 res4.2.2.1 res4.2.2.2) <|
      lett (picture_TakeHeader_1_S 1 res4.2.1 res4.2.2.1 res4.2.2.2) fun res5 =>
      need (picture_TakeHeader_1_pre 1 res5.2.1 res5.2.2.1 res5.2.2.2) <|
      lett (picture_TakeHeader_1_S 1 res5.2.1 res5.2.2.1 res5.2.2.2) fun res6 =>
      lett ((x21.1, (x21.2.1, (x21.2.2.1, ((res4.1 == 1), x21.2.2.2.2))))) fun x37 =>
      lett ((x37.1, (x37.2.1, (x37.2.2.1, (x37.2.2.2.1, ((res5.1 == 1), x37.2.2.2.2.2)))))) fun x38 =>
      lett ((x38.1, (x38.2.1, (x38.2.2.1, (x38.2.2.2.1, (x38.2.2.2.2.1, ((res6.1 == 1), x38.2.2.2.2.2.2))))))) fun x39 =>
      need (picture_PutHeader_pre x39) <|
      lett (picture_PutHeader_S x39) fun res7 =>
      if (res7.2 != 0) = true then
        ex 3 (0, (0, (0, (false, (false, (false, ()))))))
      else
        need (bytes_Equal_pre res7.1.2.1 u2.2.1) <|
        lett (bytes_Equal_S res7.1.2.1 u2.2.1) fun r43 =>
        if (!r43) = true then
          ex 3 (0, (0, (0, (false, (false, (false, ()))))))
        else
          ex 0 x39

noncomputable def picture_TakeHeader_F {R : Type} (k : D_api_Pic → Int → (Option R)) (u : D_api_Unit) : Option R :=
  need (bitio_NewReader_pre u.2.1) <|
  caseS (bitio_NewReader_S u.2.1)
    (fun _ =>
      k (0, (0, (0, (false, (false, (false, ())))))) 3
    )
    (fun res2 =>
      picture_TakeHeader_J2_T
        (fun x48 o49 =>
          k o49 x48
        )
        0 u Z_api_Pic res2.1 res2.2.1 res2.2.2
    )
def picture_TakeHeader_Obl (pre : D_api_Unit → Prop) (S : D_api_Unit → ((D_api_Pic × Int))) : Prop :=
  ∀ (u : D_api_Unit) (_ : okT T_api_Unit u), pre u →
  ∀ {R : Type} (k : D_api_Pic → Int → (Option R)) (Good : Option R → Prop), Good (k ((S u).1) ((S u).2)) → Good (picture_TakeHeader_F k u)
noncomputable def cutroomref02_Open_L5_T {R : Type} (p6 : List Int) (rec : Int → (List Int) → (Option R)) (ex : (List Int) → (Option R)) (i : Int) (l : List Int) : Option R :=
  if (decide (i < (p6.length : Int))) = true then
    if (0 : Int) ≤ i ∧ i < (p6.length : Int) then
      lett (wu32 (p6.getD i.toNat 0)) fun x10 =>
      need (cutroomref02_Bits_pre x10 8) <|
      lett (cutroomref02_Bits_S x10 8) fun o =>
      if 0 < 1 ∧ (l.length + o.length) * 1 ≤ room then
        rec (wi64 (i + 1)) (l ++ o)
      else
        none
    else
      none
  else
    ex l
def cutroomref02_Open_L5_Obl (pre : (List Int) → Int → (List Int) → Prop) (mu : (List Int) → Int → (List Int) → Nat) (S : (List Int) → Int → (List Int) → ((List Int))) : Prop :=
  ∀ (p6 : List Int) (i : Int) (l : List Int) (_ : okT (.sl (.int .u8)) p6) (_ : okT (.int .i64) i) (_ : okT (.sl (.int .u8)) l),
  pre p6 i l →
  ∀ {R : Type} (rec : Int → (List Int) → (Option R)) (ex : (List Int) → (Option R)) (Good : Option R → Prop),
  (∀ (i' : Int) (l' : List Int), pre p6 i' l' → mu p6 i' l' < mu p6 i l → S p6 i' l' = S p6 i l → Good (rec i' l')) →
  (∀ y0, S p6 i l = y0 → Good (ex y0)) →
  Good (cutroomref02_Open_L5_T p6 rec ex i l)

noncomputable def cutroomref02_Open_L9_T {R : Type} (l16 : List Int) (rec : Int → (Option R)) (ex : Int → (Option R)) (end_ : Int) : Option R :=
  if (0 : Int) ≤ end_ ∧ end_ < (l16.length : Int) then
    if ((l16.getD end_.toNat 0) == 0) = true then
      rec (wi64 (end_ - 1))
    else
      ex end_
  else
    none
def cutroomref02_Open_L9_Obl (pre : (List Int) → Int → Prop) (mu : (List Int) → Int → Nat) (S : (List Int) → Int → (Int)) : Prop :=
  ∀ (l16 : List Int) (end_ : Int) (_ : okT (.int .i64) end_) (_ : okT (.sl (.int .u8)) l16),
  pre l16 end_ →
  ∀ {R : Type} (rec : Int → (Option R)) (ex : Int → (Option R)) (Good : Option R → Prop),
  (∀ (end_' : Int), pre l16 end_' → mu l16 end_' < mu l16 end_ → S l16 end_' = S l16 end_ → Good (rec end_')) →
  (∀ y0, S l16 end_ = y0 → Good (ex y0)) →
  Good (cutroomref02_Open_L9_T l16 rec ex end_)

noncomputable def cutroomref02_Open_F {R : Type} (k0 : Unit → (Option R)) (k1 : Nat → Nat → Int → (List Int) → (Option R)) (p : List Int) : Option R :=
  if ((p.length : Int) == 0) = true then
    k0 ()
  else
    lett (wi64 ((p.length : Int) - 1)) fun x3 =>
    if (0 : Int) ≤ x3 ∧ x3 < (p.length : Int) then
      if ((p.getD x3.toNat 0) == 0) = true then
        k0 ()
      else
        need (cutroomref02_Open_L5_pre p 0 []) <|
        lett (cutroomref02_Open_L5_S p 0 []) fun l13 =>
        lett (wi64 ((l13.length : Int) - 1)) fun x15 =>
        need (cutroomref02_Open_L9_pre l13 x15) <|
        lett (cutroomref02_Open_L9_S l13 x15) fun end20 =>
        if (0 : Int) ≤ end20 ∧ end20 ≤ (l13.length : Int) then
          k1 0 (end20.toNat - 0) 0 l13
        else
          none
    else
      none
def cutroomref02_Open_Obl (pre : (List Int) → Prop) (S : (List Int) → (((Unit) ⊕ (Nat × Nat × Int × List Int)))) : Prop :=
  ∀ (p : List Int) (_ : okT (.sl (.int .u8)) p), pre p →
  ∀ {R : Type} (k0 : Unit → (Option R)) (k1 : Nat → Nat → Int → (List Int) → (Option R)) (Good : Option R → Prop),
  (S p = (.inl ()) → Good (k0 ())) →
  (∀ y0 y1 y2 y3, S p = (.inr (y0, y1, y2, y3)) → Good (k1 y0 y1 y2 y3)) →
  Good (cutroomref02_Open_F k0 k1 p)
noncomputable def cutroomref02_Reader_Left_F {R : Type} (k : Int → Nat → Nat → Int → (List Int) → (Option R)) (r1Off : Nat) (r1Len : Nat) (r1 : Int) (r_ : List Int) : Option R :=
  k (wi64 ((r1Len : Int) - r1)) r1Off r1Len r1 r_
def cutroomref02_Reader_Left_Obl (pre : Nat → Nat → Int → (List Int) → Prop) (S : Nat → Nat → Int → (List Int) → ((Int × Nat × Nat × Int × List Int))) : Prop :=
  ∀ (r1Off : Nat) (r1Len : Nat) (r1 : Int) (r_ : List Int) (_ : okT (.int .i64) r1) (_ : okT (.sl (.int .u8)) r_), pre r1Off r1Len r1 r_ →
  ∀ {R : Type} (k : Int → Nat → Nat → Int → (List Int) → (Option R)) (Good : Option R → Prop), Good (k ((S r1Off r1Len r1 r_).1) ((S r1Off r1Len r1 r_).2.1) ((S r1Off r1Len r1 r_).2.2.1) ((S r1Off r1Len r1 r_).2.2.2.1) ((S r1Off r1Len r1 r_).2.2.2.2)) → Good (cutroomref02_Reader_Left_F k r1Off r1Len r1 r_)
noncomputable def cutroomref02_Reader_Take_L7_T {R : Type} (n8 : Int) (r1Off9 : Nat) (r1Len10 : Nat) (r111 : Int) (o : List Int) (rec : Int → Int → (Option R)) (ex : Int → (Option R)) (v : Int) (i : Int) : Option R :=
  if (decide (i < n8)) = true then
    lett (wi64 (r111 + i)) fun x14 =>
    if (0 : Int) ≤ x14 ∧ x14 < (r1Len10 : Int) then
      rec (bor .u32 (bshl .u32 v 1) (wu32 (o.getD (r1Off9 + x14.toNat) 0))) (wi64 (i + 1))
    else
      none
  else
    ex v
def cutroomref02_Reader_Take_L7_Obl (pre : Int → Nat → Nat → Int → (List Int) → Int → Int → Prop) (mu : Int → Nat → Nat → Int → (List Int) → Int → Int → Nat) (S : Int → Nat → Nat → Int → (List Int) → Int → Int → (Int)) : Prop :=
  ∀ (n8 : Int) (r1Off9 : Nat) (r1Len10 : Nat) (r111 : Int) (o : List Int) (v : Int) (i : Int) (_ : okT (.int .i64) n8) (_ : okT (.int .u32) v) (_ : okT (.int .i64) i) (_ : okT (.int .i64) r111) (_ : okT (.sl (.int .u8)) o),
  pre n8 r1Off9 r1Len10 r111 o v i →
  ∀ {R : Type} (rec : Int → Int → (Option R)) (ex : Int → (Option R)) (Good : Option R → Prop),
  (∀ (v' : Int) (i' : Int), pre n8 r1Off9 r1Len10 r111 o v' i' → mu n8 r1Off9 r1Len10 r111 o v' i' < mu n8 r1Off9 r1Len10 r111 o v i → S n8 r1Off9 r1Len10 r111 o v' i' = S n8 r1Off9 r1Len10 r111 o v i → Good (rec v' i')) →
  (∀ y0, S n8 r1Off9 r1Len10 r111 o v i = y0 → Good (ex y0)) →
  Good (cutroomref02_Reader_Take_L7_T n8 r1Off9 r1Len10 r111 o rec ex v i)

noncomputable def cutroomref02_Reader_Take_F {R : Type} (k : Int → Int → Nat → Nat → Int → (List Int) → (Option R)) (n : Int) (r1Off : Nat) (r1Len : Nat) (r1 : Int) (r_ : List Int) : Option R :=
  if (decide (n < 0)) = true then
    k 0 1 r1Off r1Len r1 r_
  else
    if (decide (n > 32)) = true then
      k 0 1 r1Off r1Len r1 r_
    else
      need (cutroomref02_Reader_Left_pre r1Off r1Len r1 r_) <|
      lett (cutroomref02_Reader_Left_S r1Off r1Len r1 r_) fun res1 =>
      if (decide (n > res1.1)) = true then
        k 0 4 res1.2.1 res1.2.2.1 res1.2.2.2.1 res1.2.2.2.2
      else
        need (cutroomref02_Reader_Take_L7_pre n res1.2.1 res1.2.2.1 res1.2.2.2.1 res1.2.2.2.2 0 0) <|
        lett (cutroomref02_Reader_Take_L7_S n res1.2.1 res1.2.2.1 res1.2.2.2.1 res1.2.2.2.2 0 0) fun v19 =>
        k v19 0 res1.2.1 res1.2.2.1 (wi64 (res1.2.2.2.1 + n)) res1.2.2.2.2
def cutroomref02_Reader_Take_Obl (pre : Int → Nat → Nat → Int → (List Int) → Prop) (S : Int → Nat → Nat → Int → (List Int) → ((Int × Int × Nat × Nat × Int × List Int))) : Prop :=
  ∀ (n : Int) (r1Off : Nat) (r1Len : Nat) (r1 : Int) (r_ : List Int) (_ : okT (.int .i64) n) (_ : okT (.int .i64) r1) (_ : okT (.sl (.int .u8)) r_), pre n r1Off r1Len r1 r_ →
  ∀ {R : Type} (k : Int → Int → Nat → Nat → Int → (List Int) → (Option R)) (Good : Option R → Prop), Good (k ((S n r1Off r1Len r1 r_).1) ((S n r1Off r1Len r1 r_).2.1) ((S n r1Off r1Len r1 r_).2.2.1) ((S n r1Off r1Len r1 r_).2.2.2.1) ((S n r1Off r1Len r1 r_).2.2.2.2.1) ((S n r1Off r1Len r1 r_).2.2.2.2.2)) → Good (cutroomref02_Reader_Take_F k n r1Off r1Len r1 r_)
noncomputable def cutroomref11_TakeHeader_J2_T {R : Type} (ex : Int → D_api_Pic → (Option R)) (e : Int) (u1 : D_api_Unit) (o2 : D_api_Pic) (r1Off : Nat) (r1Len : Nat) (r1 : Int) (o3 : List Int) : Option R :=
  if (e != 0) = true then
    ex 3 (0, (0, (0, (false, (false, (false, ()))))))
  else
    if (u1.1 != 181) = true then
      ex 3 (0, (0, (0, (false, (false, (false, ()))))))
    else
      need (cutroomref02_Reader_Left_pre r1Off r1Len r1 o3) <|
      lett (cutroomref02_Reader_Left_S r1Off r1Len r1 o3) fun res1 =>
      if (res1.1 != 17) = true then
        ex 3 (0, (0, (0, (false, (false, (false, ()))))))
      else
        need (cutroomref02_Reader_Take_pre 10 res1.2.1 res1.2.2.1 res1.2.2.2.1 res1.2.2.2.2) <|
        lett (cutroomref02_Reader_Take_S 10 res1.2.1 res1.2.2.1 res1.2.2.2.1 res1.2.2.2.2) fun res2 =>
        need (cutroomref02_Reader_Take_pre 2 res2.2.2.1 res2.2.2.2.1 res2.2.2.2.2.1 res2.2.2.2.2.2) <|
        lett (cutroomref02_Reader_Take_S 2 res2.2.2.1 res2.2.2.2.1 res2.2.2.2.2.1 res2.2.2.2.2.2) fun res3 =>
        need (cutroomref02_Reader_Take_pre 2 res3.2.2.1 res3.2.2.2.1 res3.2.2.2.2.1 res3.2.2.2.2.2) <|
        lett (cutroomref02_Reader_Take_S 2 res3.2.2.1 res3.2.2.2.1 res3.2.2.2.2.1 res3.2.2.2.2.2) fun res4 =>
        need (cutroomref02_Reader_Take_pre 1 res4.2.2.1 res4.2.2.2.1 res4.2.2.2.2.1 res4.2.2.2.2.2) <|
        lett (cutroomref02_Reader_Take_S 1 res4.2.2.1 res4.2.2.2.1 res4.2.2.2.2.1 res4.2.2.2.2.2) fun res5 =>
        need (cutroomref02_Reader_Take_pre 1 res5.2.2.1 res5.2.2.2.1 res5.2.2.2.2.1 res5.2.2.2.2.2) <|
        lett (cutroomref02_Reader_Take_S 1 res5.2.2.1 res5.2.2.2.1 res5.2.2.2.2.1 res5.2.2.2.2.2) fun res6 =>
        need (cutroomref02_Reader_Take_pre 1 res6.2.2.1 res6.2.2.2.1 res6.2.2.2.2.1 res6.2.2.2.2.2) <|
        lett (cutroomref02_Reader_Take_S 1 res6.2.2.1 res6.2.2.2.1 res6.2.2.2.2.1 res6.2.2.2.2.2) fun res7 =>
        lett (((wi64 res3.1), ((wi64 res4.1), ((wi64 res2.1), ((res5.1 == 1), ((res6.1 == 1), ((res7.1 == 1), ()))))))) fun x55 =>
        need (cutroomref11_header_pre x55) <|
        lett (cutroomref11_header_S x55) fun r56 =>
        if (!r56) = true then
          ex 3 (0, (0, (0, (false, (false, (false, ()))))))
        else
          ex 0 x55

noncomputable def cutroomref11_TakeHeader_F {R : Type} (k : D_api_Pic → Int → (Option R)) (u : D_api_Unit) : Option R :=
  need (cutroomref02_Open_pre u.2.1) <|
  caseS (cutroomref02_Open_S u.2.1)
    (fun _ =>
      k (0, (0, (0, (false, (false, (false, ())))))) 3
    )
    (fun res2 =>
      cutroomref11_TakeHeader_J2_T
        (fun x60 o61 =>
          k o61 x60
        )
        0 u Z_api_Pic res2.1 res2.2.1 res2.2.2.1 res2.2.2.2
    )
def cutroomref11_TakeHeader_Obl (pre : D_api_Unit → Prop) (S : D_api_Unit → ((D_api_Pic × Int))) : Prop :=
  ∀ (u : D_api_Unit) (_ : okT T_api_Unit u), pre u →
  ∀ {R : Type} (k : D_api_Pic → Int → (Option R)) (Good : Option R → Prop), Good (k ((S u).1) ((S u).2)) → Good (cutroomref11_TakeHeader_F k u)
noncomputable def cutroomlaw11_awake_F {R : Type} (k : Bool → (Option R))  : Option R :=
  lett ((2, (3, (1, (true, (false, (false, ()))))))) fun x =>
  need (picture_PutHeader_pre x) <|
  lett (picture_PutHeader_S x) fun res1 =>
  if (res1.2 == 0) = true then
    if (res1.1.1 == 181) = true then
      need (cutroomref02_SameBytes_pre res1.1.2.1 [0, 110, 64]) <|
      lett (cutroomref02_SameBytes_S res1.1.2.1 [0, 110, 64]) fun r4 =>
      k r4
    else
      k false
  else
    k false
def cutroomlaw11_awake_Obl (pre : Prop) (S : (Bool)) : Prop :=
   pre  →
  ∀ {R : Type} (k : Bool → (Option R)) (Good : Option R → Prop), Good (k (S)) → Good (cutroomlaw11_awake_F k )
noncomputable def cutroomlaw11_PictureHeaders_F {R : Type} (k : Bool → (Option R)) (h : D_api_Pic) (u : D_api_Unit) : Option R :=
  if (decide ((u.2.1.length : Int) > 200)) = true then
    k true
  else
    need (picture_PutHeader_pre h) <|
    lett (picture_PutHeader_S h) fun res1 =>
    need (cutroomref11_PutHeader_pre h) <|
    lett (cutroomref11_PutHeader_S h) fun res2 =>
    if (res1.2 != res2.2) = true then
      k false
    else
      need (cutroomref03_SameUnit_pre res1.1 res2.1) <|
      lett (cutroomref03_SameUnit_S res1.1 res2.1) fun r6 =>
      if (!r6) = true then
        k false
      else
        if (res1.2 == 0) = true then
          need (picture_TakeHeader_pre res1.1) <|
          lett (picture_TakeHeader_S res1.1) fun res3 =>
          if (res3.2 != 0) = true then
            k false
          else
            if (!(Ty.eqB T_api_Pic res3.1 h)) = true then
              k false
            else
              need (picture_TakeHeader_pre u) <|
              lett (picture_TakeHeader_S u) fun res4 =>
              need (cutroomref11_TakeHeader_pre u) <|
              lett (cutroomref11_TakeHeader_S u) fun res5 =>
              need (cutroomlaw11_awake_pre) <|
              lett (cutroomlaw11_awake_S) fun r17 =>
              if r17 = true then
                if (res4.2 == res5.2) = true then
                  k (Ty.eqB T_api_Pic res4.1 res5.1)
                else
                  k false
              else
                k false
        else
          need (picture_TakeHeader_pre u) <|
          lett (picture_TakeHeader_S u) fun res6 =>
          need (cutroomref11_TakeHeader_pre u) <|
          lett (cutroomref11_TakeHeader_S u) fun res7 =>
          need (cutroomlaw11_awake_pre) <|
          lett (cutroomlaw11_awake_S) fun r24 =>
          if r24 = true then
            if (res6.2 == res7.2) = true then
              k (Ty.eqB T_api_Pic res6.1 res7.1)
            else
              k false
          else
            k false
def cutroomlaw11_PictureHeaders_Obl (pre : D_api_Pic → D_api_Unit → Prop) (S : D_api_Pic → D_api_Unit → (Bool)) : Prop :=
  ∀ (h : D_api_Pic) (u : D_api_Unit) (_ : okT T_api_Pic h) (_ : okT T_api_Unit u), pre h u →
  ∀ {R : Type} (k : Bool → (Option R)) (Good : Option R → Prop), Good (k ((S h u))) → Good (cutroomlaw11_PictureHeaders_F k h u)
noncomputable def rational_abs_F {R : Type} (k : Int → (Option R)) (x : Int) : Option R :=
  if (decide (x < 0)) = true then
    k (wu64 (0 - (wu64 x)))
  else
    k (wu64 x)
def rational_abs_Obl (pre : Int → Prop) (S : Int → (Int)) : Prop :=
  ∀ (x : Int) (_ : okT (.int .i64) x), pre x →
  ∀ {R : Type} (k : Int → (Option R)) (Good : Option R → Prop), Good (k ((S x))) → Good (rational_abs_F k x)
noncomputable def rational_gcd_L1_T {R : Type}  (rec : Int → Int → (Option R)) (ex : Int → (Option R)) (a1 : Int) (b2 : Int) : Option R :=
  if (b2 != 0) = true then
    if b2 = 0 then
      none
    else
      rec b2 (a1.tmod b2)
  else
    ex a1
def rational_gcd_L1_Obl (pre : Int → Int → Prop) (mu : Int → Int → Nat) (S : Int → Int → (Int)) : Prop :=
  ∀ (a1 : Int) (b2 : Int) (_ : okT (.int .u64) a1) (_ : okT (.int .u64) b2),
  pre a1 b2 →
  ∀ {R : Type} (rec : Int → Int → (Option R)) (ex : Int → (Option R)) (Good : Option R → Prop),
  (∀ (a1' : Int) (b2' : Int), pre a1' b2' → mu a1' b2' < mu a1 b2 → S a1' b2' = S a1 b2 → Good (rec a1' b2')) →
  (∀ y0, S a1 b2 = y0 → Good (ex y0)) →
  Good (rational_gcd_L1_T  rec ex a1 b2)

noncomputable def rational_gcd_F {R : Type} (k : Int → (Option R)) (a : Int) (b : Int) : Option R :=
  need (rational_gcd_L1_pre a b) <|
  lett (rational_gcd_L1_S a b) fun a4 =>
  k a4
def rational_gcd_Obl (pre : Int → Int → Prop) (S : Int → Int → (Int)) : Prop :=
  ∀ (a : Int) (b : Int) (_ : okT (.int .u64) a) (_ : okT (.int .u64) b), pre a b →
  ∀ {R : Type} (k : Int → (Option R)) (Good : Option R → Prop), Good (k ((S a b))) → Good (rational_gcd_F k a b)
noncomputable def rational_Valid_F {R : Type} (k : Bool → (Option R)) (r_ : D_api_Rat) : Option R :=
  if (decide (r_.2.1 ≥ 1)) = true then
    if (decide (r_.1 ≥ (-9223372036854775807))) = true then
      need (rational_abs_pre r_.1) <|
      lett (rational_abs_S r_.1) fun r2 =>
      need (rational_gcd_pre r2 (wu64 r_.2.1)) <|
      lett (rational_gcd_S r2 (wu64 r_.2.1)) fun r4 =>
      k (r4 == 1)
    else
      k false
  else
    k false
def rational_Valid_Obl (pre : D_api_Rat → Prop) (S : D_api_Rat → (Bool)) : Prop :=
  ∀ (r_ : D_api_Rat) (_ : okT T_api_Rat r_), pre r_ →
  ∀ {R : Type} (k : Bool → (Option R)) (Good : Option R → Prop), Good (k ((S r_))) → Good (rational_Valid_F k r_)
noncomputable def slices_Min_byte_byte_L5_T {R : Type} (x4 : List Int) (rec : Int → Int → (Option R)) (ex : Int → (Option R)) (m : Int) (i : Int) : Option R :=
  if (decide (i < (x4.length : Int))) = true then
    if (0 : Int) ≤ i ∧ i < (x4.length : Int) then
      lett (x4.getD i.toNat 0) fun x7 =>
      rec (if x7 < m then x7 else m) (wi64 (i + 1))
    else
      none
  else
    ex m
def slices_Min_byte_byte_L5_Obl (pre : (List Int) → Int → Int → Prop) (mu : (List Int) → Int → Int → Nat) (S : (List Int) → Int → Int → (Int)) : Prop :=
  ∀ (x4 : List Int) (m : Int) (i : Int) (_ : okT (.sl (.int .u8)) x4) (_ : okT (.int .u8) m) (_ : okT (.int .i64) i),
  pre x4 m i →
  ∀ {R : Type} (rec : Int → Int → (Option R)) (ex : Int → (Option R)) (Good : Option R → Prop),
  (∀ (m' : Int) (i' : Int), pre x4 m' i' → mu x4 m' i' < mu x4 m i → S x4 m' i' = S x4 m i → Good (rec m' i')) →
  (∀ y0, S x4 m i = y0 → Good (ex y0)) →
  Good (slices_Min_byte_byte_L5_T x4 rec ex m i)

noncomputable def slices_Min_byte_byte_F {R : Type} (k : Int → (Option R)) (x : List Int) : Option R :=
  if (decide ((x.length : Int) < 1)) = true then
    none
  else
    if (0 : Int) ≤ 0 ∧ 0 < (x.length : Int) then
      lett (x.getD (0 : Int).toNat 0) fun x3 =>
      need (slices_Min_byte_byte_L5_pre x x3 1) <|
      lett (slices_Min_byte_byte_L5_S x x3 1) fun m10 =>
      k m10
    else
      none
def slices_Min_byte_byte_Obl (pre : (List Int) → Prop) (S : (List Int) → (Int)) : Prop :=
  ∀ (x : List Int) (_ : okT (.sl (.int .u8)) x), pre x →
  ∀ {R : Type} (k : Int → (Option R)) (Good : Option R → Prop), Good (k ((S x))) → Good (slices_Min_byte_byte_F k x)
noncomputable def quant_Valid_F {R : Type} (k : Bool → (Option R)) (m : List Int) : Option R :=
  need (slices_Min_byte_byte_pre m) <|
  lett (slices_Min_byte_byte_S m) fun r_ =>
  k (decide (r_ ≥ 8))
def quant_Valid_Obl (pre : (List Int) → Prop) (S : (List Int) → (Bool)) : Prop :=
  ∀ (m : List Int) (_ : okT (.arr 64 (.int .u8)) m), pre m →
  ∀ {R : Type} (k : Bool → (Option R)) (Good : Option R → Prop), Good (k ((S m))) → Good (quant_Valid_F k m)
noncomputable def picture_ValidSeq_J4_T {R : Type} (ex : Bool → (Option R)) (high : Int) (s1 : D_api_Seq) : Option R :=
  if (decide (s1.1 < 16)) = true then
    ex false
  else
    if (decide (s1.1 > 64)) = true then
      ex false
    else
      if ((s1.1.tmod 16) != 0) = true then
        ex false
      else
        if (decide (s1.2.1 < 16)) = true then
          ex false
        else
          if (decide (s1.2.1 > 64)) = true then
            ex false
          else
            if high = 0 then
              none
            else
              if ((s1.2.1.tmod high) != 0) = true then
                ex false
              else
                need (rational_Valid_pre s1.2.2.1) <|
                lett (rational_Valid_S s1.2.2.1) fun r_ =>
                if (!r_) = true then
                  ex false
                else
                  if (decide (s1.2.2.1.1 < 1)) = true then
                    ex false
                  else
                    if (decide (s1.2.2.1.1 > 1048576)) = true then
                      ex false
                    else
                      if (decide (s1.2.2.1.2.1 > 65536)) = true then
                        ex false
                      else
                        if (decide (s1.2.2.2.2.1 < 1)) = true then
                          ex false
                        else
                          if (decide (s1.2.2.2.2.1 > 16777216)) = true then
                            ex false
                          else
                            if (decide (s1.2.2.2.2.2.1 < 1)) = true then
                              ex false
                            else
                              if (decide (s1.2.2.2.2.2.1 > 8388608)) = true then
                                ex false
                              else
                                if (decide ((wi64 ((wi64 (2 * s1.2.2.1.1)) * s1.2.2.2.2.2.1)) ≥ (wi64 ((wi64 ((wi64 (3 * s1.2.2.1.2.1)) * s1.2.2.2.2.1)) + (wi64 (32 * s1.2.2.1.1)))))) = true then
                                  need (quant_Valid_pre s1.2.2.2.2.2.2.1) <|
                                  lett (quant_Valid_S s1.2.2.2.2.2.2.1) fun r24 =>
                                  if r24 = true then
                                    need (quant_Valid_pre s1.2.2.2.2.2.2.2.1) <|
                                    lett (quant_Valid_S s1.2.2.2.2.2.2.2.1) fun r25 =>
                                    ex r25
                                  else
                                    ex false
                                else
                                  ex false

noncomputable def picture_ValidSeq_F {R : Type} (k : Bool → (Option R)) (s : D_api_Seq) : Option R :=
  if s.2.2.2.1 = true then
    picture_ValidSeq_J4_T
      (fun x26 =>
        k x26
      )
      32 s
  else
    picture_ValidSeq_J4_T
      (fun x27 =>
        k x27
      )
      16 s
def picture_ValidSeq_Obl (pre : D_api_Seq → Prop) (S : D_api_Seq → (Bool)) : Prop :=
  ∀ (s : D_api_Seq) (_ : okT T_api_Seq s), pre s →
  ∀ {R : Type} (k : Bool → (Option R)) (Good : Option R → Prop), Good (k ((S s))) → Good (picture_ValidSeq_F k s)
noncomputable def cutroomref01_mag_F {R : Type} (k : Int → (Option R)) (x : Int) : Option R :=
  if (decide (x < 0)) = true then
    k (wu64 ((wu64 (wi64 (0 - (wi64 (x + 1))))) + 1))
  else
    k (wu64 x)
def cutroomref01_mag_Obl (pre : Int → Prop) (S : Int → (Int)) : Prop :=
  ∀ (x : Int) (_ : okT (.int .i64) x), pre x →
  ∀ {R : Type} (k : Int → (Option R)) (Good : Option R → Prop), Good (k ((S x))) → Good (cutroomref01_mag_F k x)
noncomputable def cutroomref01_gcd_L1_T {R : Type}  (rec : Int → Int → (Option R)) (ex : Int → (Option R)) (a1 : Int) (b2 : Int) : Option R :=
  if (b2 != 0) = true then
    if b2 = 0 then
      none
    else
      rec b2 (a1.tmod b2)
  else
    ex a1
def cutroomref01_gcd_L1_Obl (pre : Int → Int → Prop) (mu : Int → Int → Nat) (S : Int → Int → (Int)) : Prop :=
  ∀ (a1 : Int) (b2 : Int) (_ : okT (.int .u64) a1) (_ : okT (.int .u64) b2),
  pre a1 b2 →
  ∀ {R : Type} (rec : Int → Int → (Option R)) (ex : Int → (Option R)) (Good : Option R → Prop),
  (∀ (a1' : Int) (b2' : Int), pre a1' b2' → mu a1' b2' < mu a1 b2 → S a1' b2' = S a1 b2 → Good (rec a1' b2')) →
  (∀ y0, S a1 b2 = y0 → Good (ex y0)) →
  Good (cutroomref01_gcd_L1_T  rec ex a1 b2)

noncomputable def cutroomref01_gcd_F {R : Type} (k : Int → (Option R)) (a : Int) (b : Int) : Option R :=
  need (cutroomref01_gcd_L1_pre a b) <|
  lett (cutroomref01_gcd_L1_S a b) fun a4 =>
  k a4
def cutroomref01_gcd_Obl (pre : Int → Int → Prop) (S : Int → Int → (Int)) : Prop :=
  ∀ (a : Int) (b : Int) (_ : okT (.int .u64) a) (_ : okT (.int .u64) b), pre a b →
  ∀ {R : Type} (k : Int → (Option R)) (Good : Option R → Prop), Good (k ((S a b))) → Good (cutroomref01_gcd_F k a b)
noncomputable def cutroomref01_Valid_F {R : Type} (k : Bool → (Option R)) (r_ : D_api_Rat) : Option R :=
  if (decide (r_.2.1 ≥ 1)) = true then
    if (decide (r_.1 ≥ (-9223372036854775807))) = true then
      need (cutroomref01_mag_pre r_.1) <|
      lett (cutroomref01_mag_S r_.1) fun r2 =>
      need (cutroomref01_gcd_pre r2 (wu64 r_.2.1)) <|
      lett (cutroomref01_gcd_S r2 (wu64 r_.2.1)) fun r4 =>
      k (r4 == 1)
    else
      k false
  else
    k false
def cutroomref01_Valid_Obl (pre : D_api_Rat → Prop) (S : D_api_Rat → (Bool)) : Prop :=
  ∀ (r_ : D_api_Rat) (_ : okT T_api_Rat r_), pre r_ →
  ∀ {R : Type} (k : Bool → (Option R)) (Good : Option R → Prop), Good (k ((S r_))) → Good (cutroomref01_Valid_F k r_)
noncomputable def cutroomref06_Valid_L2_T {R : Type} (m1 : List Int) (rec : Int → (Option R)) (ex0 : Bool → (Option R)) (ex1 : Unit → (Option R)) (k_ : Int) : Option R :=
  if (decide (k_ < 64)) = true then
    if (0 : Int) ≤ k_ ∧ k_ < (64 : Int) then
      if k_.toNat < 64 then
        if (decide ((m1.getD k_.toNat 0) < 8)) = true then
          ex0 false
        else
          rec (wi64 (k_ + 1))
      else
        none
    else
      none
  else
    ex1 ()
def cutroomref06_Valid_L2_Obl (pre : (List Int) → Int → Prop) (mu : (List Int) → Int → Nat) (S : (List Int) → Int → (((Bool) ⊕ (Unit)))) : Prop :=
  ∀ (m1 : List Int) (k_ : Int) (_ : okT (.int .i64) k_) (_ : okT (.arr 64 (.int .u8)) m1),
  pre m1 k_ →
  ∀ {R : Type} (rec : Int → (Option R)) (ex0 : Bool → (Option R)) (ex1 : Unit → (Option R)) (Good : Option R → Prop),
  (∀ (k_' : Int), pre m1 k_' → mu m1 k_' < mu m1 k_ → S m1 k_' = S m1 k_ → Good (rec k_')) →
  (∀ y0, S m1 k_ = (.inl y0) → Good (ex0 y0)) →
  (S m1 k_ = (.inr ()) → Good (ex1 ())) →
  Good (cutroomref06_Valid_L2_T m1 rec ex0 ex1 k_)

noncomputable def cutroomref06_Valid_F {R : Type} (k : Bool → (Option R)) (m : List Int) : Option R :=
  need (cutroomref06_Valid_L2_pre m 0) <|
  caseS (cutroomref06_Valid_L2_S m 0)
    (fun x5 =>
      k x5
    )
    (fun _ =>
      k true
    )
def cutroomref06_Valid_Obl (pre : (List Int) → Prop) (S : (List Int) → (Bool)) : Prop :=
  ∀ (m : List Int) (_ : okT (.arr 64 (.int .u8)) m), pre m →
  ∀ {R : Type} (k : Bool → (Option R)) (Good : Option R → Prop), Good (k ((S m))) → Good (cutroomref06_Valid_F k m)
noncomputable def cutroomref11_ValidSeq_J3_T {R : Type} (ex : Bool → (Option R)) (s10 : D_api_Seq) : Option R :=
  need (cutroomref01_Valid_pre s10.2.2.1) <|
  lett (cutroomref01_Valid_S s10.2.2.1) fun r_ =>
  if (!r_) = true then
    ex false
  else
    if (decide (s10.2.2.1.1 < 1)) = true then
      ex false
    else
      if (decide (s10.2.2.1.1 > 1048576)) = true then
        ex false
      else
        if (decide (s10.2.2.1.2.1 > 65536)) = true then
          ex false
        else
          if (decide (s10.2.2.2.2.1 < 1)) = true then
            ex false
          else
            if (decide (s10.2.2.2.2.1 > 16777216)) = true then
              ex false
            else
              if (decide (s10.2.2.2.2.2.1 < 1)) = true then
                ex false
              else
                if (decide (s10.2.2.2.2.2.1 > 8388608)) = true then
                  ex false
                else
                  if (decide ((wi64 ((wi64 (2 * s10.2.2.1.1)) * s10.2.2.2.2.2.1)) < (wi64 ((wi64 ((wi64 (3 * s10.2.2.1.2.1)) * s10.2.2.2.2.1)) + (wi64 (32 * s10.2.2.1.1)))))) = true then
                    ex false
                  else
                    need (cutroomref06_Valid_pre s10.2.2.2.2.2.2.1) <|
                    lett (cutroomref06_Valid_S s10.2.2.2.2.2.2.1) fun r26 =>
                    if r26 = true then
                      need (cutroomref06_Valid_pre s10.2.2.2.2.2.2.2.1) <|
                      lett (cutroomref06_Valid_S s10.2.2.2.2.2.2.2.1) fun r27 =>
                      ex r27
                    else
                      ex false

noncomputable def cutroomref11_ValidSeq_F {R : Type} (k : Bool → (Option R)) (s : D_api_Seq) : Option R :=
  if (decide (s.1 < 16)) = true then
    k false
  else
    if (decide (s.1 > 64)) = true then
      k false
    else
      if ((s.1.tmod 16) != 0) = true then
        k false
      else
        if (decide (s.2.1 < 16)) = true then
          k false
        else
          if (decide (s.2.1 > 64)) = true then
            k false
          else
            if ((s.2.1.tmod 16) != 0) = true then
              k false
            else
              if s.2.2.2.1 = true then
                if ((s.2.1.tmod 32) != 0) = true then
                  k false
                else
                  cutroomref11_ValidSeq_J3_T
                    (fun x28 =>
                      k x28
                    )
                    s
              else
                cutroomref11_ValidSeq_J3_T
                  (fun x29 =>
                    k x29
                  )
                  s
def cutroomref11_ValidSeq_Obl (pre : D_api_Seq → Prop) (S : D_api_Seq → (Bool)) : Prop :=
  ∀ (s : D_api_Seq) (_ : okT T_api_Seq s), pre s →
  ∀ {R : Type} (k : Bool → (Option R)) (Good : Option R → Prop), Good (k ((S s))) → Good (cutroomref11_ValidSeq_F k s)
noncomputable def picture_Valid_F {R : Type} (k : Bool → (Option R)) (s : D_api_Seq) (h : D_api_Pic) : Option R :=
  need (picture_ValidSeq_pre s) <|
  lett (picture_ValidSeq_S s) fun r_ =>
  if (!r_) = true then
    k false
  else
    need (picture_coded_pre h) <|
    lett (picture_coded_S h) fun r1 =>
    if (!r1) = true then
      k false
    else
      if s.2.2.2.1 = true then
        k true
      else
        if (h.2.1 == 3) = true then
          if h.2.2.2.1 = true then
            k (!h.2.2.2.2.1)
          else
            k false
        else
          k false
def picture_Valid_Obl (pre : D_api_Seq → D_api_Pic → Prop) (S : D_api_Seq → D_api_Pic → (Bool)) : Prop :=
  ∀ (s : D_api_Seq) (h : D_api_Pic) (_ : okT T_api_Seq s) (_ : okT T_api_Pic h), pre s h →
  ∀ {R : Type} (k : Bool → (Option R)) (Good : Option R → Prop), Good (k ((S s h))) → Good (picture_Valid_F k s h)
noncomputable def cutroomref11_Valid_F {R : Type} (k : Bool → (Option R)) (s : D_api_Seq) (h : D_api_Pic) : Option R :=
  need (cutroomref11_ValidSeq_pre s) <|
  lett (cutroomref11_ValidSeq_S s) fun r_ =>
  if r_ = true then
    need (cutroomref11_header_pre h) <|
    lett (cutroomref11_header_S h) fun r1 =>
    if r1 = true then
      if s.2.2.2.1 = true then
        k true
      else
        if (h.2.1 == 3) = true then
          if h.2.2.2.1 = true then
            k (!h.2.2.2.2.1)
          else
            k false
        else
          k false
    else
      k false
  else
    k false
def cutroomref11_Valid_Obl (pre : D_api_Seq → D_api_Pic → Prop) (S : D_api_Seq → D_api_Pic → (Bool)) : Prop :=
  ∀ (s : D_api_Seq) (h : D_api_Pic) (_ : okT T_api_Seq s) (_ : okT T_api_Pic h), pre s h →
  ∀ {R : Type} (k : Bool → (Option R)) (Good : Option R → Prop), Good (k ((S s h))) → Good (cutroomref11_Valid_F k s h)
noncomputable def picture_Rows_F {R : Type} (k : Int → (Option R)) (s : D_api_Seq) (h : D_api_Pic) : Option R :=
  need (picture_Valid_pre s h) <|
  lett (picture_Valid_S s h) fun r_ =>
  if (!r_) = true then
    k 0
  else
    if (h.2.1 == 3) = true then
      k (wi64 (s.2.1.tdiv 16))
    else
      k (wi64 (s.2.1.tdiv 32))
def picture_Rows_Obl (pre : D_api_Seq → D_api_Pic → Prop) (S : D_api_Seq → D_api_Pic → (Int)) : Prop :=
  ∀ (s : D_api_Seq) (h : D_api_Pic) (_ : okT T_api_Seq s) (_ : okT T_api_Pic h), pre s h →
  ∀ {R : Type} (k : Int → (Option R)) (Good : Option R → Prop), Good (k ((S s h))) → Good (picture_Rows_F k s h)
noncomputable def cutroomref11_Rows_F {R : Type} (k : Int → (Option R)) (s : D_api_Seq) (h : D_api_Pic) : Option R :=
  need (cutroomref11_Valid_pre s h) <|
  lett (cutroomref11_Valid_S s h) fun r_ =>
  if (!r_) = true then
    k 0
  else
    if (h.2.1 == 3) = true then
      k (wi64 (s.2.1.tdiv 16))
    else
      k (wi64 (s.2.1.tdiv 32))
def cutroomref11_Rows_Obl (pre : D_api_Seq → D_api_Pic → Prop) (S : D_api_Seq → D_api_Pic → (Int)) : Prop :=
  ∀ (s : D_api_Seq) (h : D_api_Pic) (_ : okT T_api_Seq s) (_ : okT T_api_Pic h), pre s h →
  ∀ {R : Type} (k : Int → (Option R)) (Good : Option R → Prop), Good (k ((S s h))) → Good (cutroomref11_Rows_F k s h)
noncomputable def cutroomlaw11_PictureSeqs_F {R : Type} (k : Bool → (Option R)) (s : D_api_Seq) (h : D_api_Pic) : Option R :=
  need (cutroomlaw11_awake_pre) <|
  lett (cutroomlaw11_awake_S) fun r_ =>
  if r_ = true then
    need (picture_ValidSeq_pre s) <|
    lett (picture_ValidSeq_S s) fun r1 =>
    need (cutroomref11_ValidSeq_pre s) <|
    lett (cutroomref11_ValidSeq_S s) fun r2 =>
    if (r1 == r2) = true then
      need (picture_Valid_pre s h) <|
      lett (picture_Valid_S s h) fun r3 =>
      need (cutroomref11_Valid_pre s h) <|
      lett (cutroomref11_Valid_S s h) fun r4 =>
      if (r3 == r4) = true then
        need (picture_Rows_pre s h) <|
        lett (picture_Rows_S s h) fun r6 =>
        need (cutroomref11_Rows_pre s h) <|
        lett (cutroomref11_Rows_S s h) fun r7 =>
        k (r6 == r7)
      else
        k false
    else
      k false
  else
    k false
def cutroomlaw11_PictureSeqs_Obl (pre : D_api_Seq → D_api_Pic → Prop) (S : D_api_Seq → D_api_Pic → (Bool)) : Prop :=
  ∀ (s : D_api_Seq) (h : D_api_Pic) (_ : okT T_api_Seq s) (_ : okT T_api_Pic h), pre s h →
  ∀ {R : Type} (k : Bool → (Option R)) (Good : Option R → Prop), Good (k ((S s h))) → Good (cutroomlaw11_PictureSeqs_F k s h)
theorem okU32 {n : Int} (h : okT (.int .u32) n) : 0 ≤ n ∧ n ≤ 4294967295 := by
  have : ok .u32 n := h
  unfold ok IntKind.min IntKind.max at this
  simp [IntKind.bits, IntKind.signed] at this
  omega
theorem okU64 {n : Int} (h : okT (.int .u64) n) : 0 ≤ n ∧ n ≤ 18446744073709551615 := by
  have : ok .u64 n := h
  unfold ok IntKind.min IntKind.max at this
  simp [IntKind.bits, IntKind.signed] at this
  omega
theorem wu32_id {x : Int} (h1 : 0 ≤ x) (h2 : x ≤ 4294967295) : wu32 x = x := by
  unfold wu32 IntKind.wrap
  simp [IntKind.bits, IntKind.signed]
  omega
theorem wu64_id {x : Int} (h1 : 0 ≤ x) (h2 : x ≤ 18446744073709551615) : wu64 x = x := by
  unfold wu64 IntKind.wrap
  simp [IntKind.bits, IntKind.signed]
  omega
theorem shr_eq {k : IntKind} {v n : Int} (h0 : 0 ≤ n) (h1 : n ≤ k.bits) : bshr k v n = v / 2 ^ n.toNat := by
  have := bshr_eq (k := k) (v := v) (s := n.toNat) (by omega)
  rwa [Int.toNat_of_nonneg h0] at this
theorem shl_u {k : IntKind} (hk : k.signed = false) {v n : Int} (h0 : 0 ≤ n) (hs : n ≤ k.bits) (hv : 0 ≤ v) (h1 : v * 2 ^ n.toNat < 2 ^ k.bits) : bshl k v n = v * 2 ^ n.toNat := by
  have := bshl_u (k := k) hk (v := v) (s := n.toNat) (by omega) hv h1
  rwa [Int.toNat_of_nonneg h0] at this
theorem wbits_pk {bs : List Int} (hb : Bits bs) {n : Int} (hn : n = bs.length) : wbits n (pk bs) = bs := by
  unfold wbits; rw [hn, Int.toNat_natCast, pk_take hb]
theorem bit_of {x : Int} (h : x % 2 = x % 2) : x % 2 = 0 ∨ x % 2 = 1 := by omega
theorem picture_coded_ok : picture_coded_Obl picture_coded_pre picture_coded_S := by
  intro h _ _ R k Good hk
  unfold picture_coded_S picOk at hk
  have key : ∀ {b : Bool}, (b = decide (1 ≤ h.1 ∧ h.1 ≤ 3 ∧ 1 ≤ h.2.1 ∧ h.2.1 ≤ 3 ∧ 0 ≤ h.2.2.1 ∧ h.2.2.1 ≤ 1023)) → Good (k b) := fun e => e ▸ hk
  unfold picture_coded_F
  repeat' (refine gD (fun _ => ?_) (fun _ => ?_))
  all_goals (first | exact key (decide_eq_decide.2 (by omega)) | exact key (decide_eq_false (by omega)).symm)
theorem cutroomref11_header_ok : cutroomref11_header_Obl cutroomref11_header_pre cutroomref11_header_S := by
  intro h _ _ R k Good hk
  unfold cutroomref11_header_S picOk at hk
  have key : ∀ {b : Bool}, (b = decide (1 ≤ h.1 ∧ h.1 ≤ 3 ∧ 1 ≤ h.2.1 ∧ h.2.1 ≤ 3 ∧ 0 ≤ h.2.2.1 ∧ h.2.2.1 ≤ 1023)) → Good (k b) := fun e => e ▸ hk
  unfold cutroomref11_header_F
  repeat' (refine gD (fun _ => ?_) (fun _ => ?_))
  all_goals (first | exact key (decide_eq_decide.2 (by omega)) | exact key (decide_eq_false (by omega)).symm)
theorem bitio_NewWriter_ok : bitio_NewWriter_Obl bitio_NewWriter_pre bitio_NewWriter_S := fun _ _ _ _ hk => hk
theorem picture_bit_ok : picture_bit_Obl picture_bit_pre picture_bit_S := by
  intro b _ _ R k Good hk
  exact gB (fun h => by subst h; exact hk) (fun h => by subst h; exact hk)
theorem cutroomref11_bit_ok : cutroomref11_bit_Obl cutroomref11_bit_pre cutroomref11_bit_S := by
  intro b _ _ R k Good hk
  exact gB (fun h => by subst h; exact hk) (fun h => by subst h; exact hk)
/-- one bit more: what the loop does to the bytes -/
theorem put_bit0 {bs : List Int} (hb : Bits bs) (h8 : bs.length % 8 = 0) {b s : Int} (hbb : b = 0 ∨ b = 1) (hs : s = 7) {x : Nat} (hx : x = bs.length / 8) :
    (pk bs ++ [0]).set x (bor .u8 ((pk bs ++ [0]).getD x 0) (bshl .u8 b s)) = pk (bs ++ [b]) := by
  have hl : (pk bs).length = x := by rw [pk_len]; omega
  rw [pk_snoc0 bs b h8]
  have e1 : (pk bs ++ [(0 : Int)]).getD x 0 = 0 := by simp [List.getD, ← hl]
  rw [e1, ← hl, List.set_append_right _ _ (Nat.le_refl _), Nat.sub_self]
  have e2 : bor .u8 0 (bshl .u8 b s) = b * 128 := by subst hs; rcases hbb with rfl | rfl <;> decide
  rw [e2]; rfl
theorem put_bit1 {bs : List Int} (hb : Bits bs) (h8 : bs.length % 8 ≠ 0) {b s : Int} (hbb : b = 0 ∨ b = 1) (hs : s = 7 - (bs.length % 8 : Nat)) {x : Nat} (hx : x = bs.length / 8) :
    (pk bs).set x (bor .u8 ((pk bs).getD x 0) (bshl .u8 b s)) = pk (bs ++ [b]) := by
  obtain ⟨q, h1, h2, h3, h4⟩ := pk_snoc1 bs hb h8
  rw [h4 b, hx, h3]
  congr 1
  have hm : bs.length % 8 < 8 := Nat.mod_lt _ (by omega)
  generalize bs.length % 8 = m at *
  have hs' : s = ((7 - m : Nat) : Int) := by omega
  have e2 : bshl .u8 b s = b * 2 ^ (7 - m) := by
    rw [hs']
    refine bshl_u rfl (by simp [IntKind.bits]; omega) (by omega) ?_
    have hp : (2 : Int) ^ (7 - m) ≤ 2 ^ 7 := by exact_mod_cast Nat.pow_le_pow_right (by omega) (by omega : 7 - m ≤ 7)
    have := pow_pos2 (7 - m)
    have e8 : (2 : Int) ^ IntKind.u8.bits = 256 := rfl
    rw [e8]
    rcases hbb with rfl | rfl <;> omega
  rw [e2]
  have hp := pow_pos2 (7 - m)
  have e8 : (2 : Int) ^ IntKind.u8.bits = 256 := rfl
  have e3 : (2 : Int) ^ (8 - m) = 2 * 2 ^ (7 - m) := by rw [show 8 - m = (7 - m) + 1 by omega, Int.pow_succ, Int.mul_comm]
  have e4 : q * 2 ^ (8 - m) + 2 ^ (8 - m) ≤ 256 := by
    have h5 : (q + 1) * 2 ^ (8 - m) ≤ 2 ^ m * 2 ^ (8 - m) := Int.mul_le_mul_of_nonneg_right (by omega) (Int.le_of_lt (pow_pos2 _))
    rw [← Int.pow_add, show m + (8 - m) = 8 by omega] at h5
    rw [Int.add_mul, Int.one_mul] at h5
    exact h5
  refine bor_low rfl h1 ?_ ?_ ?_
  · rcases hbb with rfl | rfl <;> omega
  · rcases hbb with rfl | rfl <;> omega
  · rw [e8]; rcases hbb with rfl | rfl <;> omega
theorem bitio_Writer_Put_L6_ok : bitio_Writer_Put_L6_Obl bitio_Writer_Put_L6_pre bitio_Writer_Put_L6_mu bitio_Writer_Put_L6_S := by
  intro v n x i w o hv hn hx hi hw ho ⟨hnx, h0, h1, h2, bs, hb, hwl, hol, hroom⟩ R rec ex Good hr hxx
  subst hnx
  subst hol
  have hv' := okU32 hv
  have hr' := room_eq
  unfold bitio_Writer_Put_L6_S at hr hxx
  unfold bitio_Writer_Put_L6_mu bitio_Writer_Put_L6_pre at hr
  rw [wbits_pk hb hwl] at hr hxx
  have hlen := pk_len bs
  have hbit : ∀ s : Int, 0 ≤ s → s ≤ 31 → wu8 (band .u32 (bshr .u32 v s) 1) = v / 2 ^ s.toNat % 2 := fun s hs0 hs1 => by
    rw [shr_eq hs0 (by simp [IntKind.bits]; omega)]
    have hd0 : 0 ≤ v / 2 ^ s.toNat := Int.ediv_nonneg hv'.1 (Int.le_of_lt (pow_pos2 _))
    have hd1 : v / 2 ^ s.toNat ≤ v := Int.ediv_le_self _ hv'.1
    rw [band1 rfl hd0 (by simp [IntKind.bits]; omega), wu8_id (by omega) (by omega)]
  have step : i < n → ∀ o', o' = pk (bs ++ [v / 2 ^ (n - 1 - i).toNat % 2]) → Good (rec (wi64 (i + 1)) (wi64 (w + 1)) o') := fun hlt o' ho' => by
    subst ho'
    rw [w64 (by omega) (by omega), w64 (by omega) (by omega)]
    have hbn : Bits (bs ++ [v / 2 ^ (n - 1 - i).toNat % 2]) := hb.append (Bits.one (by omega))
    refine hr _ _ _ ⟨rfl, by omega, by omega, h2, _, hbn, by simp; omega, rfl, by simp; omega⟩ (by omega) ?_
    rw [wbits_pk hbn (by simp; omega), show (n - i).toNat = (n - (i + 1)).toNat + 1 by omega, bitsOf_front, show (n - (i + 1)).toNat = (n - 1 - i).toNat by omega]
    refine Prod.ext (by simp; omega) (by simp)
  unfold bitio_Writer_Put_L6_T
  refine gD (fun hlt => ?_) (fun hlt => ?_)
  · have hm : w.tmod 8 = ((bs.length % 8 : Nat) : Int) := by rw [hwl, Int.tmod_eq_emod_of_nonneg (by omega)]; omega
    have hq : wi64 (w.tdiv 8) = ((bs.length / 8 : Nat) : Int) := by rw [hwl, Int.tdiv_eq_ediv_of_nonneg (by omega), w64 (by omega) (by omega)]; omega
    have hs : wi64 (wi64 (n - 1) - i) = n - 1 - i := by rw [w64 (x := n - 1) (by omega) (by omega), w64 (by omega) (by omega)]
    have h7 : wi64 (7 - w.tmod 8) = 7 - ((bs.length % 8 : Nat) : Int) := by rw [hm, w64 (by omega) (by omega)]
    rw [hq, hs, h7, hm]
    refine gE (fun h8 => ?_) (fun h8 => ?_)
    · have h8' : bs.length % 8 = 0 := by omega
      have hle : ((pk bs ++ [(0 : Int)]).length : Int) = (pk bs).length + 1 := by simp
      refine gC ⟨by omega, by simp; omega⟩ fun _ => gL fun s hs' => gNone (by omega) fun _ => gL fun q hq' => gC (by omega) fun _ => gL fun z hz => gNone (by omega) fun _ => gC (by omega) fun _ => ?_
      rw [hs', hq', hz, Int.toNat_natCast, hbit (n - 1 - i) (by omega) (by omega)]
      exact step hlt _ (put_bit0 hb h8' (by omega) (by omega) rfl)
    · have h8' : bs.length % 8 ≠ 0 := by omega
      refine gL fun s hs' => gNone (by omega) fun _ => gL fun q hq' => gC (by omega) fun _ => gL fun z hz => gNone (by omega) fun _ => gC (by omega) fun _ => ?_
      rw [hs', hq', hz, Int.toNat_natCast, hbit (n - 1 - i) (by omega) (by omega)]
      exact step hlt _ (put_bit1 hb h8' (by omega) rfl rfl)
  · refine hxx _ _ ?_
    rw [show (n - i).toNat = 0 by omega, show n - i = 0 by omega]
    simp [bitsOf]
theorem bitio_Writer_Put_ok : bitio_Writer_Put_Obl bitio_Writer_Put_pre bitio_Writer_Put_S := by
  intro v n w o hv hn hw ho hp R k Good hk
  obtain ⟨bs, hb, hwl, hol, hroom⟩ := hp
  have hv' := okU32 hv
  unfold bitio_Writer_Put_S at hk
  unfold bitio_Writer_Put_F
  refine gD (fun h1 => by rw [if_pos (.inl h1)] at hk; exact hk) fun h1 => gD (fun h2 => by rw [if_pos (.inr h2)] at hk; exact hk) fun h2 => gNone h1 fun _ => ?_
  rw [if_neg (by omega)] at hk
  rw [wu64_id (by omega) (by omega), shr_eq (by omega) (by simp [IntKind.bits]; omega)]
  have hp2 := pow_pos2 n.toNat
  refine gD (fun h3 => ?_) (fun h3 => ?_)
  · rw [if_pos ?_] at hk
    · exact hk
    · refine Classical.byContradiction fun hc => ?_
      rw [Int.ediv_eq_zero_of_lt hv'.1 (by omega)] at h3
      omega
  · rw [if_neg ?_] at hk
    · refine gNeed ⟨rfl, by omega, by omega, by omega, bs, hb, hwl, hol, by omega⟩ fun _ => gL fun r hr => ?_
      subst hr
      unfold bitio_Writer_Put_L6_S
      simpa using hk
    · intro hc
      have : 1 ≤ v / 2 ^ n.toNat := (Int.le_ediv_iff_mul_le hp2).2 (by omega)
      omega
theorem bitio_Writer_Payload_ok : bitio_Writer_Payload_Obl bitio_Writer_Payload_pre bitio_Writer_Payload_S := by
  intro w o hw ho ⟨bs, hb, hwl, hol, hroom⟩ R k Good hk
  subst hol
  unfold bitio_Writer_Payload_S at hk
  rw [wbits_pk hb hwl] at hk
  have hlen := pk_len bs
  have hr' := room_eq
  have hm : w.tmod 8 = ((bs.length % 8 : Nat) : Int) := by rw [hwl, Int.tmod_eq_emod_of_nonneg (by omega)]; omega
  unfold bitio_Writer_Payload_F
  rw [hm]
  refine gE (fun h8 => ?_) (fun h8 => ?_)
  · refine gNeed (by unfold slices_Clone_byte_byte_pre; omega) fun _ => gL fun s hs => gC ⟨by omega, by subst hs; unfold slices_Clone_byte_byte_S; simp; omega⟩ fun _ => ?_
    subst hs
    unfold slices_Clone_byte_byte_S
    rw [pk_snoc0 bs 1 (by omega)] at hk
    exact hk
  · refine gNeed (by unfold slices_Clone_byte_byte_pre; omega) fun _ => gL fun s hs => ?_
    subst hs
    unfold slices_Clone_byte_byte_S
    have h8' : bs.length % 8 ≠ 0 := by omega
    have hx : wi64 (((pk bs).length : Int) - 1) = ((bs.length / 8 : Nat) : Int) := by rw [w64 (by omega) (by omega)]; omega
    rw [hx, w64 (x := 7 - _) (by omega) (by omega)]
    refine gL fun q hq' => gC (by omega) fun _ => gL fun z hz => gNone (by omega) fun _ => gC (by omega) fun _ => ?_
    rw [hq', hz, Int.toNat_natCast, put_bit1 hb h8' (.inr rfl) rfl rfl]
    exact hk

theorem fbits_len : ∀ l : List (Int × Int × Unit), FOKs l → ((fbits l).length : Int) ≤ 32 * l.length
  | [], _ => by simp [fbits]
  | f :: l, h => by
    have h1 := fbits_len l fun x hx => h x (by simp [hx])
    have h2 := h f (by simp)
    simp only [fbits, List.flatMap_cons, List.length_append, bitsOf_len, List.length_cons] at h1 ⊢
    omega
theorem fbits_bits : ∀ l : List (Int × Int × Unit), Bits (fbits l)
  | [] => Bits.nil
  | f :: l => by simp only [fbits, List.flatMap_cons]; exact (bitsOf_bits _ _).append (fbits_bits l)
theorem picture_PutHeader_L5_ok : picture_PutHeader_L5_Obl picture_PutHeader_L5_pre picture_PutHeader_L5_mu picture_PutHeader_L5_S := by
  intro n u fs i w o hn hi _ hw ho hf ⟨hnl, h0, h1, hn1, ⟨bs, hb, hwl, hol, hroom⟩, hF⟩ R rec ex0 ex1 Good hr _ hx1
  subst hol
  unfold picture_PutHeader_L5_S at hr hx1
  unfold picture_PutHeader_L5_mu picture_PutHeader_L5_pre at hr
  rw [wbits_pk hb hwl] at hr hx1
  unfold picture_PutHeader_L5_T
  refine gD (fun hlt => ?_) (fun hlt => ?_)
  · refine gC ⟨h0, by omega⟩ fun _ => gL fun f hfe => ?_
    have hd := dropAt h0 (show i < fs.length by omega) ((0, (0, ())) : Int × Int × Unit)
    rw [← hfe] at hd
    have hmem : f ∈ fs := List.mem_of_mem_drop (i := i.toNat) (by rw [hd]; simp)
    obtain ⟨f1, f2, f3, f4⟩ := hF f hmem
    refine gNeed ⟨bs, hb, hwl, rfl, by omega⟩ fun _ => gL fun r hre => ?_
    unfold bitio_Writer_Put_S at hre
    rw [if_neg (by omega), if_neg (by omega), wbits_pk hb hwl] at hre
    subst hre
    refine gN (fun h => absurd rfl h) fun _ => ?_
    have hbn : Bits (bs ++ bitsOf f.1 f.2.1.toNat) := hb.append (bitsOf_bits _ _)
    have hln : w + f.2.1 = ((bs ++ bitsOf f.1 f.2.1.toNat).length : Int) := by simp [bitsOf_len]; omega
    rw [w64 (by omega) (by omega)]
    refine hr _ _ _ ⟨hnl, by omega, by omega, hn1, ⟨_, hbn, hln, rfl, by simp [bitsOf_len]; omega⟩, hF⟩ (by omega) ?_
    rw [wbits_pk hbn hln, hd]
    simp only [fbits, List.flatMap_cons, List.length_append, bitsOf_len, List.append_assoc]
    congr 1
    refine Prod.ext ?_ rfl
    simp only
    push_cast
    omega
  · refine hx1 _ _ ?_
    rw [List.drop_eq_nil_of_le (by omega)]
    simp [fbits]
theorem okPic {h : D_api_Pic} (hp : picOk h = true) : 1 ≤ h.1 ∧ h.1 ≤ 3 ∧ 1 ≤ h.2.1 ∧ h.2.1 ≤ 3 ∧ 0 ≤ h.2.2.1 ∧ h.2.2.1 ≤ 1023 := by unfold picOk at hp; exact of_decide_eq_true hp
theorem b2i_bounds (b : Bool) : 0 ≤ b2i b ∧ b2i b < 2 := by cases b <;> decide
theorem b2i_bits (b : Bool) : bitsOf (b2i b) 1 = [b2i b] := by cases b <;> rfl
theorem hbits_bits (h : D_api_Pic) : Bits (hbits h) := by
  unfold hbits
  refine (bitsOf_bits _ _).append ((bitsOf_bits _ _).append ((bitsOf_bits _ _).append fun x hx => ?_))
  have := fun b => b2i_bounds b
  simp at hx
  rcases hx with rfl | rfl | rfl <;> (have := b2i_bounds; rename_i b; have := this; unfold b2i; split <;> simp)
theorem hbits_len (h : D_api_Pic) : (hbits h).length = 17 := by simp [hbits, bitsOf_len]
theorem hbits_f (h : D_api_Pic) : fbits [(h.2.2.1, (10, ())), (h.1, (2, ())), (h.2.1, (2, ())), (b2i h.2.2.2.1, (1, ())), (b2i h.2.2.2.2.1, (1, ())), (b2i h.2.2.2.2.2.1, (1, ()))] = hbits h := by
  simp only [fbits, List.flatMap_cons, List.flatMap_nil, hbits]
  have e10 : (10 : Int).toNat = 10 := rfl
  have e2 : (2 : Int).toNat = 2 := rfl
  have e1 : (1 : Int).toNat = 1 := rfl
  rw [e10, e2, e1, b2i_bits, b2i_bits, b2i_bits]
  rfl
theorem picture_PutHeader_ok : picture_PutHeader_Obl picture_PutHeader_pre picture_PutHeader_S := by
  intro h hh _ R k Good hk
  unfold picture_PutHeader_S at hk
  unfold picture_PutHeader_F
  refine gNeed trivial fun _ => gL fun r hr => ?_
  unfold picture_coded_S at hr
  subst hr
  refine gNB (fun hc => ?_) (fun hc => ?_)
  · rw [hc] at hk; exact hk
  · rw [if_pos hc] at hk
    have hp := okPic hc
    refine gNeed trivial fun _ => gL fun r1 hr1 => gL fun x3 h3 => gL fun x5 h5 => gL fun x7 h7 => gNeed trivial fun _ => gL fun r8 h8 => gNeed trivial fun _ => gL fun r10 h10 => gNeed trivial fun _ => gL fun r12 h12 => gL fun x14 h14 => ?_
    unfold picture_bit_S at h8 h10 h12
    rw [wu32_id (by omega) (by omega)] at h3 h5 h7
    subst h3 h5 h7 h8 h10 h12 h14 hr1
    have hw0 : WOK (bitio_NewWriter_S).1 (bitio_NewWriter_S).2 (32 * 6) := ⟨[], Bits.nil, rfl, pk_nil.symm, by decide⟩
    have hFO : FOKs [(h.2.2.1, (10, ())), (h.1, (2, ())), (h.2.1, (2, ())), (b2i h.2.2.2.1, (1, ())), (b2i h.2.2.2.2.1, (1, ())), (b2i h.2.2.2.2.2.1, (1, ()))] := by
      intro f hf
      simp only [List.mem_cons, List.not_mem_nil, or_false] at hf
      have e10 : (2 : Int) ^ (10 : Int).toNat = 1024 := rfl
      have e2 : (2 : Int) ^ (2 : Int).toNat = 4 := rfl
      have e1 : (2 : Int) ^ (1 : Int).toNat = 2 := rfl
      have hb := b2i_bounds
      rcases hf with rfl | rfl | rfl | rfl | rfl | rfl
      · simp only; rw [e10]; omega
      · simp only; rw [e2]; omega
      · simp only; rw [e2]; omega
      · simp only; rw [e1]; have := hb h.2.2.2.1; omega
      · simp only; rw [e1]; have := hb h.2.2.2.2.1; omega
      · simp only; rw [e1]; have := hb h.2.2.2.2.2.1; omega
    refine gNeed ⟨rfl, by omega, by simp, by simp, hw0, hFO⟩ fun _ => gS (fun a ha => by unfold picture_PutHeader_L5_S at ha; cases ha) fun b hb => ?_
    unfold picture_PutHeader_L5_S at hb
    rw [show (0 : Int).toNat = 0 from rfl, List.drop_zero, hbits_f] at hb
    have hwb : wbits (bitio_NewWriter_S).1 (bitio_NewWriter_S).2 = [] := rfl
    rw [hwb, List.nil_append, hbits_len] at hb
    have hb := (Sum.inr.inj hb).symm
    subst hb
    have hwl : (bitio_NewWriter_S).1 + ((17 : Nat) : Int) = ((hbits h).length : Int) := by rw [hbits_len]; rfl
    refine gNeed ⟨hbits h, hbits_bits h, hwl, rfl, by rw [hbits_len]; decide⟩ fun _ => gL fun r4 h4 => ?_
    unfold bitio_Writer_Payload_S at h4
    rw [wbits_pk (hbits_bits h) hwl] at h4
    subst h4
    exact hk
theorem cutroomref02_Bits_L3_ok : cutroomref02_Bits_L3_Obl cutroomref02_Bits_L3_pre cutroomref02_Bits_L3_mu cutroomref02_Bits_L3_S := by
  intro v i out hv hi ho ⟨h0, h1, h2⟩ R rec ex Good hr hx
  have hv' := okU32 hv
  have hr' := room_eq
  unfold cutroomref02_Bits_L3_S at hr hx
  unfold cutroomref02_Bits_L3_mu cutroomref02_Bits_L3_pre at hr
  unfold cutroomref02_Bits_L3_T
  refine gD (fun hlt => ?_) (fun hlt => ?_)
  · rw [wu64_id (by omega) (by omega)]
    refine gNone (by omega) fun _ => ?_
    have hd0 : 0 ≤ v / 2 ^ i.toNat := Int.ediv_nonneg hv'.1 (Int.le_of_lt (pow_pos2 _))
    have hd1 : v / 2 ^ i.toNat ≤ v := Int.ediv_le_self _ hv'.1
    rw [shr_eq (by omega) (by simp [IntKind.bits]; omega), band1 rfl hd0 (by simp [IntKind.bits]; omega), wu8_id (by omega) (by omega), w64 (by omega) (by omega)]
    refine gL fun x hx' => gC ⟨by omega, by simp; omega⟩ fun _ => ?_
    subst hx'
    refine hr _ _ ⟨by omega, by omega, by simp; omega⟩ (by omega) ?_
    rw [show (i + 1).toNat = i.toNat + 1 by omega, bitsOf_front, List.append_assoc, show (i - 1 + 1).toNat = i.toNat by omega]
    rfl
  · refine hx _ ?_
    rw [show (i + 1).toNat = 0 by omega]
    simp [bitsOf]
theorem cutroomref02_Bits_ok : cutroomref02_Bits_Obl cutroomref02_Bits_pre cutroomref02_Bits_S := by
  intro v n hv hn ⟨h0, h1⟩ R k Good hk
  unfold cutroomref02_Bits_F
  rw [w64 (by omega) (by omega)]
  refine gNeed ⟨by omega, by omega, by simp; omega⟩ fun _ => gL fun o ho => ?_
  subst ho
  unfold cutroomref02_Bits_L3_S
  rw [List.nil_append, show n - 1 + 1 = n by omega]
  exact hk
/-- a bit is set where nothing stands from it on -/
theorem pk_set : ∀ A : List Int, Bits A → ∀ m, (A.length + 1 + m) % 8 = 0 → ∀ x : Int, x = 2 ^ (7 - A.length % 8) →
    (pk (A ++ List.replicate (m + 1) 0)).set (A.length / 8) (bor .u8 ((pk (A ++ List.replicate (m + 1) 0)).getD (A.length / 8) 0) x) = pk (A ++ 1 :: List.replicate m 0) := by
  refine chunk_ind (fun l h hb m hm x hx => ?_) (fun a l ha ih hb m hm x hx => ?_)
  · have hd : l.length / 8 = 0 := by omega
    have hmm : l.length % 8 = l.length := by omega
    rw [hmm] at hx
    rw [hd]
    have t1 : (l ++ List.replicate (m + 1) (0 : Int)).take 8 = l ++ List.replicate (8 - l.length) 0 := by
      rw [List.take_append, List.take_of_length_le (by omega), List.take_replicate, Nat.min_eq_left (by omega)]
    have t2 : (l ++ List.replicate (m + 1) (0 : Int)).drop 8 = List.replicate (m + 1 - (8 - l.length)) 0 := by
      rw [List.drop_append, List.drop_eq_nil_of_le (by omega), List.drop_replicate]; rfl
    have t3 : (l ++ 1 :: List.replicate m (0 : Int)).take 8 = l ++ 1 :: List.replicate (7 - l.length) 0 := by
      rw [List.take_append, List.take_of_length_le (by omega), show 8 - l.length = (7 - l.length) + 1 by omega, List.take_succ_cons, List.take_replicate, Nat.min_eq_left (by omega)]
    have t4 : (l ++ 1 :: List.replicate m (0 : Int)).drop 8 = List.replicate (m + 1 - (8 - l.length)) 0 := by
      rw [List.drop_append, List.drop_eq_nil_of_le (by omega), show 8 - l.length = (7 - l.length) + 1 by omega, List.drop_succ_cons, List.drop_replicate, List.nil_append]
      congr 1; omega
    rw [pk_ne (l := l ++ List.replicate (m + 1) (0 : Int)) (by simp), t1, t2, pk_ne (l := l ++ 1 :: List.replicate m (0 : Int)) (by simp), t3, t4]
    simp only [List.set_cons_zero, List.getD_cons_zero]
    congr 1
    have hv := valOf_bounds hb
    have e1 : byteOf (l ++ List.replicate (8 - l.length) 0) = valOf l * 2 ^ (8 - l.length) := by
      unfold byteOf
      rw [show 8 - (l ++ List.replicate (8 - l.length) (0 : Int)).length = 0 by simp; omega]
      rw [List.replicate_zero, List.append_nil, valOf_append, valOf_zeros]
      simp
    have e2 : byteOf (l ++ 1 :: List.replicate (7 - l.length) 0) = valOf l * 2 ^ (8 - l.length) + 2 ^ (7 - l.length) := by
      unfold byteOf
      rw [show 8 - (l ++ 1 :: List.replicate (7 - l.length) (0 : Int)).length = 0 by simp; omega]
      rw [List.replicate_zero, List.append_nil, valOf_append]
      rw [show (1 :: List.replicate (7 - l.length) (0 : Int)) = [1] ++ List.replicate (7 - l.length) 0 from rfl, valOf_append, valOf_zeros]
      simp only [List.length_append, List.length_replicate, List.length_singleton]
      rw [show valOf [1] = 1 from rfl, show 1 + (7 - l.length) = 8 - l.length by omega]
      omega
    rw [e1, e2, hx]
    have e3 : (2 : Int) ^ (8 - l.length) = 2 * 2 ^ (7 - l.length) := by rw [show 8 - l.length = (7 - l.length) + 1 by omega, Int.pow_succ, Int.mul_comm]
    have hp := pow_pos2 (7 - l.length)
    refine bor_low rfl hv.1 (by omega) (by omega) ?_
    have h5 : (valOf l + 1) * 2 ^ (8 - l.length) ≤ 2 ^ l.length * 2 ^ (8 - l.length) := Int.mul_le_mul_of_nonneg_right (by omega) (Int.le_of_lt (pow_pos2 _))
    rw [← Int.pow_add, show l.length + (8 - l.length) = 8 by omega, Int.add_mul, Int.one_mul] at h5
    have e8 : (2 : Int) ^ IntKind.u8.bits = 256 := rfl
    have e9 : (2 : Int) ^ 8 = 256 := rfl
    omega
  · have hd : (a ++ l).length / 8 = l.length / 8 + 1 := by simp [ha] <;> omega
    have hmm : (a ++ l).length % 8 = l.length % 8 := by simp [ha]
    rw [hmm] at hx
    have := ih hb.of_append.2 m (by simp [ha] at hm; omega) x hx
    rw [hd, List.append_assoc, pk_chunk ha, List.append_assoc, pk_chunk ha, ← this]
    rfl
theorem pk_zeros (n : Nat) : pk (List.replicate (8 * n) 0) = List.replicate n 0 := by
  induction n with
  | zero => simp [pk_nil]
  | succ n ih =>
    rw [show 8 * (n + 1) = 8 + 8 * n by omega, ← List.replicate_append_replicate, pk_chunk (by simp), ih, valOf_zeros]
    rfl

theorem shr128 {s : Int} (h0 : 0 ≤ s) (h1 : s ≤ 7) : bshr .u8 128 s = 2 ^ (7 - s.toNat) := by
  rw [shr_eq h0 (by simp [IntKind.bits]; omega)]
  obtain ⟨n, rfl⟩ := Int.eq_ofNat_of_zero_le h0
  rw [Int.toNat_natCast]
  have : n < 8 := by omega
  match n, this with
  | 0, _ | 1, _ | 2, _ | 3, _ | 4, _ | 5, _ | 6, _ | 7, _ => decide
theorem cutroomref02_Payload_L3_ok : cutroomref02_Payload_L3_Obl cutroomref02_Payload_L3_pre cutroomref02_Payload_L3_mu cutroomref02_Payload_L3_S := by
  intro l i out _ hi ho ⟨hb, hl, h0, h1, hout⟩ R rec ex Good hr hx
  unfold cutroomref02_Payload_L3_S at hr hx
  unfold cutroomref02_Payload_L3_mu cutroomref02_Payload_L3_pre at hr
  unfold cutroomref02_Payload_L3_T
  have hlen : i ≤ l.length → (out.length : Int) = l.length / 8 + 1 := fun hle => by
    rw [hout, pk_len]
    simp only [List.length_append, List.length_take, List.length_replicate, List.length_singleton]
    omega
  have hT : Bits (l ++ [1]) := hb.append (Bits.one (.inr rfl))
  have hA : Bits ((l ++ [1]).take i.toNat) := hT.take _
  have hAl : i ≤ l.length → ((l ++ [1]).take i.toNat).length = i.toNat := fun hle => by simp; omega
  have hq : i ≤ l.length → wi64 (i.tdiv 8) = ((i.toNat / 8 : Nat) : Int) := fun hle => by rw [Int.tdiv_eq_ediv_of_nonneg h0, w64 (by omega) (by omega)]; omega
  have hm : i ≤ l.length → wu64 (i.tmod 8) = ((i.toNat % 8 : Nat) : Int) := fun hle => by rw [Int.tmod_eq_emod_of_nonneg h0, wu64_id (by omega) (by omega)]; omega
  have hsplit : i ≤ l.length → 8 * (l.length / 8 + 1) - i.toNat = (8 * (l.length / 8 + 1) - (i + 1).toNat) + 1 := fun hle => by omega
  have go : i ≤ l.length → ∀ b, (l ++ [1]).getD i.toNat 0 = b → ∀ o', o' = pk ((l ++ [1]).take i.toNat ++ b :: List.replicate (8 * (l.length / 8 + 1) - (i + 1).toNat) 0) → Good (rec (wi64 (i + 1)) o') := fun hle b hbb o' ho' => by
    rw [w64 (by omega) (by omega)]
    refine hr _ _ ⟨hb, hl, by omega, by omega, ?_⟩ (by omega) rfl
    rw [ho']
    have e : (l ++ [1]).take (i + 1).toNat = (l ++ [1]).take i.toNat ++ [b] := by
      have hi' : i.toNat < (l ++ [1]).length := by simp; omega
      rw [show (i + 1).toNat = i.toNat + 1 by omega, List.take_succ_eq_append_getElem hi']
      congr 2
      rw [← hbb, List.getD, List.getElem?_eq_getElem hi']
      rfl
    rw [e, List.append_assoc]
    rfl
  have set1 : i ≤ l.length → (l ++ [1]).getD i.toNat 0 = 1 → Good (rec (wi64 (i + 1)) (out.set (i.toNat / 8) (bor .u8 (out.getD (i.toNat / 8) 0) (bshr .u8 128 ((i.toNat % 8 : Nat) : Int))))) := fun hle hbb => by
    refine go hle 1 hbb _ ?_
    have := pk_set _ hA (8 * (l.length / 8 + 1) - (i + 1).toNat) (by rw [hAl hle]; omega) (2 ^ (7 - i.toNat % 8)) (by rw [hAl hle])
    rw [hAl hle, ← hsplit hle, ← hout] at this
    rw [← this, shr128 (by omega) (by omega), Int.toNat_natCast]
  refine gD (fun hle => ?_) (fun hle => ?_)
  · have := hlen hle
    refine gE (fun he => ?_) (fun hne => ?_)
    · rw [hq hle, hm hle]
      refine gL fun x hx' => gC (by omega) fun _ => gL fun z hz => gNone (by omega) fun _ => gC (by omega) fun _ => ?_
      rw [hx', hz, Int.toNat_natCast]
      refine set1 hle ?_
      rw [show i.toNat = l.length by omega]
      simp [List.getD]
    · have hget : (l ++ [1]).getD i.toNat 0 = l.getD i.toNat 0 := by
        simp only [List.getD]
        rw [List.getElem?_append_left (by omega)]
      refine gC ⟨h0, by omega⟩ fun _ => gE (fun h1' => ?_) (fun h1' => ?_)
      · rw [hq hle, hm hle]
        refine gL fun x hx' => gC (by omega) fun _ => gL fun z hz => gNone (by omega) fun _ => gC (by omega) fun _ => ?_
        rw [hx', hz, Int.toNat_natCast]
        exact set1 hle (hget.trans h1')
      · refine go hle 0 ?_ _ ?_
        · rw [hget]
          have hi' : i.toNat < l.length := by omega
          have := hb (l[i.toNat]) (List.getElem_mem hi')
          simp only [List.getD, List.getElem?_eq_getElem hi', Option.getD_some] at h1' ⊢
          omega
        · rw [hout, hsplit hle]
          rfl
  · refine hx _ ?_
    rw [hout, List.take_of_length_le (by simp; omega)]
    refine (pk_pad _ _ ?_).symm
    simp; omega
theorem cutroomref02_Payload_ok : cutroomref02_Payload_Obl cutroomref02_Payload_pre cutroomref02_Payload_S := by
  intro l _ ⟨hb, hl⟩ R k Good hk
  have hr := room_eq
  have hx : wi64 (wi64 ((l.length : Int).tdiv 8) + 1) = ((l.length / 8 + 1 : Nat) : Int) := by
    rw [Int.tdiv_eq_ediv_of_nonneg (by omega), w64 (x := (l.length : Int) / 8) (by omega) (by omega), w64 (by omega) (by omega)]; omega
  unfold cutroomref02_Payload_F
  rw [hx]
  refine gL fun x hx' => gC (by rw [hx', hr]; omega) fun _ => ?_
  rw [hx', Int.toNat_natCast]
  refine gNeed ⟨hb, hl, by omega, by omega, ?_⟩ fun _ => gL fun o ho => ?_
  · rw [show (0 : Int).toNat = 0 from rfl, List.take_zero, List.nil_append, Nat.sub_zero, pk_zeros]
  · subst ho
    exact hk
theorem cutroomref11_PutHeader_ok : cutroomref11_PutHeader_Obl cutroomref11_PutHeader_pre cutroomref11_PutHeader_S := by
  intro h hh _ R k Good hk
  have hr := room_eq
  unfold cutroomref11_PutHeader_S picture_PutHeader_S at hk
  unfold cutroomref11_PutHeader_F
  refine gNeed trivial fun _ => gL fun r hr => ?_
  unfold cutroomref11_header_S at hr
  subst hr
  refine gNB (fun hc => ?_) (fun hc => ?_)
  · rw [hc] at hk; exact hk
  · rw [if_pos hc] at hk
    have hp := okPic hc
    rw [wu32_id (by omega) (by omega), wu32_id (by omega) (by omega), wu32_id (by omega) (by omega)]
    refine gNeed (by unfold cutroomref02_Bits_pre; omega) fun _ => gL fun o1 h1 => gNeed (by unfold cutroomref02_Bits_pre; omega) fun _ => gL fun o2 h2 => ?_
    have l1 : o1.length = 10 := by rw [h1]; exact bitsOf_len _ _
    have l2 : o2.length = 2 := by rw [h2]; exact bitsOf_len _ _
    refine gC (by omega) fun _ => gNeed (by unfold cutroomref02_Bits_pre; omega) fun _ => gL fun o3 h3 => ?_
    have l3 : o3.length = 2 := by rw [h3]; exact bitsOf_len _ _
    refine gC (by simp [l1, l2, l3]; omega) fun _ => gL fun l7 h7 => gNeed trivial fun _ => gL fun r8 h8 => gNeed trivial fun _ => gL fun r10 h10 => gNeed trivial fun _ => gL fun r12 h12 => ?_
    unfold cutroomref11_bit_S at h8 h10 h12
    have b8 := b2i_bounds h.2.2.2.1
    have b10 := b2i_bounds h.2.2.2.2.1
    have b12 := b2i_bounds h.2.2.2.2.2.1
    rw [wu8_id (x := r8) (by omega) (by omega), wu8_id (x := r10) (by omega) (by omega), wu8_id (x := r12) (by omega) (by omega)]
    refine gC (by subst h7; simp [l1, l2, l3]; omega) fun _ => gL fun l14 h14 => ?_
    have he : l14 = hbits h := by
      subst h14 h7 h8 h10 h12 h1 h2 h3
      unfold cutroomref02_Bits_S hbits
      simp only [List.append_assoc]
      rfl
    subst he
    refine gNeed ⟨hbits_bits h, by rw [hbits_len]; decide⟩ fun _ => gL fun o15 h15 => ?_
    subst h15
    exact hk
theorem cutroomref02_SameBytes_ok : cutroomref02_SameBytes_Obl cutroomref02_SameBytes_pre cutroomref02_SameBytes_S := fun _ _ _ _ _ _ _ _ hk => hk
theorem cutroomref03_SameUnit_ok : cutroomref03_SameUnit_Obl cutroomref03_SameUnit_pre cutroomref03_SameUnit_S := by
  intro a b _ _ _ R k Good hk
  unfold cutroomref03_SameUnit_S at hk
  unfold cutroomref03_SameUnit_F
  refine gE (fun h => ?_) (fun h => ?_)
  · refine gNeed trivial fun _ => gL fun r hr => ?_
    subst hr
    rw [h] at hk
    simpa using hk
  · have : (a.1 == b.1) = false := by simpa using h
    rw [this] at hk
    exact hk
theorem same_self (a : List Int) : cutroomref02_SameBytes_S a a = true := by unfold cutroomref02_SameBytes_S; simp
def awakePic : D_api_Pic := (2, (3, (1, (true, (false, (false, ()))))))
theorem awake_put : picture_PutHeader_S awakePic = ((181, ([0, 110, 64], ())), 0) := by
  have h : pk (hbits awakePic ++ [1]) = [0, 110, 64] := by
    have e : hbits awakePic ++ [1] ++ List.replicate 6 0 = unpk [0, 110, 64] := by decide
    have := pk_pad (hbits awakePic ++ [1]) 6 (by decide)
    rw [← this, e]
    exact pk_unpk (by decide)
  unfold picture_PutHeader_S
  rw [if_pos (by decide), h]
theorem toList_data (b : ByteArray) : b.toList = b.data.toList := by
  have key : ∀ (n i : Nat) (r : List UInt8), n = b.size - i → ByteArray.toList.loop b i r = r.reverse ++ b.data.toList.drop i := by
    intro n
    induction n with
    | zero =>
      intro i r h
      unfold ByteArray.toList.loop
      rw [if_neg (by omega), List.drop_eq_nil_of_le (by have : b.data.toList.length = b.size := by simp
                                                        omega)]
      simp
    | succ n ih =>
      intro i r h
      unfold ByteArray.toList.loop
      have hi : i < b.data.toList.length := by have : b.data.toList.length = b.size := by simp
                                               omega
      rw [if_pos (by omega), ih (i + 1) _ (by omega), List.drop_eq_getElem_cons hi]
      have hi2 : i < b.size := by omega
      simp [ByteArray.get!, hi2]
  have := key (b.size - 0) 0 [] rfl
  simpa [ByteArray.toList] using this
theorem strL_inj : ∀ {a b : List Int}, (∀ x ∈ a, 0 ≤ x ∧ x ≤ 255) → (∀ x ∈ b, 0 ≤ x ∧ x ≤ 255) → (a.map fun n => UInt8.ofNat n.toNat) = (b.map fun n => UInt8.ofNat n.toNat) → a = b
  | [], [], _, _, _ => rfl
  | x :: a, y :: b, ha, hb, h => by
    simp only [List.map_cons, List.cons.injEq] at h
    have h1 := ha x (by simp)
    have h2 := hb y (by simp)
    have h3 := congrArg UInt8.toNat h.1
    simp only [UInt8.toNat_ofNat'] at h3
    rw [Nat.mod_eq_of_lt (by omega), Nat.mod_eq_of_lt (by omega)] at h3
    rw [show x = y by omega, strL_inj (fun z hz => ha z (by simp [hz])) (fun z hz => hb z (by simp [hz])) h.2]
  | [], _ :: _, _, _, h => by simp at h
  | _ :: _, [], _, _, h => by simp at h
def Bytes (a : List Int) : Prop := ∀ x ∈ a, 0 ≤ x ∧ x ≤ 255
theorem same_iff {a b : List Int} (ha : Bytes a) (hb : Bytes b) : cutroomref02_SameBytes_S a b = true ↔ a = b := by
  constructor
  · intro h
    unfold cutroomref02_SameBytes_S at h
    rw [toList_data, toList_data] at h
    exact strL_inj ha hb (by simpa [strL] using h)
  · rintro rfl; exact same_self _
theorem okBytes {l : List Int} (h : okT (.sl (.int .u8)) l) : Bytes l := fun x hx => okByte (h.2 x hx)
theorem cutroomlaw11_awake_ok : cutroomlaw11_awake_Obl cutroomlaw11_awake_pre cutroomlaw11_awake_S := by
  intro _ R k Good hk
  unfold cutroomlaw11_awake_S at hk
  unfold cutroomlaw11_awake_F
  refine gL fun x hx => gNeed trivial fun _ => gL fun r hr => ?_
  have hx' : x = awakePic := hx
  rw [hx', awake_put] at hr
  subst hr
  refine gE (fun _ => gE (fun _ => gNeed trivial fun _ => gL fun z hz => ?_) (fun h => absurd rfl h)) (fun h => absurd rfl h)
  rw [hz, same_self]
  exact hk
theorem awake_pass {R : Type} {Good : Option R → Prop} {f : Bool → Option R} (h : Good (f true)) : Good (need cutroomlaw11_awake_pre (lett cutroomlaw11_awake_S f)) :=
  gNeed trivial fun _ => gL fun b hb => by rw [hb]; exact h

theorem bytes_Equal_ok : bytes_Equal_Obl bytes_Equal_pre bytes_Equal_S := fun _ _ _ _ _ _ _ _ hk => hk
/-! ### readers -/
theorem unmark_eq (A : List Int) (j : Nat) : unmark (A ++ 1 :: List.replicate j 0) = A := by
  unfold unmark
  rw [List.reverse_append, List.reverse_cons, List.reverse_replicate, List.append_assoc]
  have : ∀ j : Nat, ∀ r : List Int, (List.replicate j (0 : Int) ++ ([1] ++ r)).dropWhile (fun b => b == 0) = [1] ++ r := by
    intro j r
    induction j with
    | zero => rfl
    | succ j ih => rw [List.replicate_succ, List.cons_append, List.dropWhile_cons]; simp
  rw [this]
  simp
/-- a payload that ends well: its bits, the mark, zeros -/
theorem low_one : ∀ (n : Nat) (c : Int), 0 < c → c < 2 ^ n → ∃ B j, bitsOf c n = B ++ 1 :: List.replicate j 0 ∧ j < n
  | 0, c, h0, h1 => by simp at h1; omega
  | n + 1, c, h0, h1 => by
    rw [bitsOf]
    by_cases h : c % 2 = 1
    · exact ⟨bitsOf (c / 2) n, 0, by rw [h]; rfl, by omega⟩
    · obtain ⟨B, j, e, hj⟩ := low_one n (c / 2) (by omega) (by rw [Int.pow_succ] at h1; omega)
      refine ⟨B, j + 1, ?_, by omega⟩
      rw [e, show c % 2 = 0 by omega, List.append_assoc, List.cons_append, ← List.replicate_succ']
theorem rd_split {p : List Int} (hb : Bytes p) (hg : goodP p = true) : ∃ j, unpk p = rd p ++ 1 :: List.replicate j 0 ∧ j < 8 := by
  unfold goodP at hg
  by_cases h : p = []
  · subst h; simp at hg
  obtain ⟨q, c, rfl⟩ := snoc_ex h
  have hc := hb c (by simp)
  have hc0 : c ≠ 0 := by simpa using hg
  obtain ⟨B, j, e, hj⟩ := low_one 8 c (by omega) (by omega)
  have e2 : unpk (q ++ [c]) = (unpk q ++ B) ++ 1 :: List.replicate j 0 := by
    rw [unpk_append, List.append_assoc, ← e]
    simp [unpk]
  refine ⟨j, ?_, hj⟩
  unfold rd
  rw [e2, unmark_eq]
theorem rd_bits (p : List Int) (hb : Bytes p) (hg : goodP p = true) : Bits (rd p) := by
  obtain ⟨j, e, _⟩ := rd_split hb hg
  have := unpk_bits p
  rw [e] at this
  exact this.of_append.1
theorem rd_len {p : List Int} (hb : Bytes p) (hg : goodP p = true) : (rd p).length < 8 * p.length := by
  obtain ⟨j, e, _⟩ := rd_split hb hg
  have := congrArg List.length e
  rw [unpk_len] at this
  simp at this
  omega
theorem rd_take {p : List Int} (hb : Bytes p) (hg : goodP p = true) : (unpk p).take (rd p).length = rd p := by
  obtain ⟨j, e, _⟩ := rd_split hb hg
  rw [e, List.take_left]
theorem rd_pk {l : List Int} (hl : Bits l) : goodP (pk (l ++ [1])) = true ∧ rd (pk (l ++ [1])) = l := by
  have hb := hl.append (Bits.one (.inr rfl) : Bits [1])
  have e := unpk_pk _ hb
  generalize 8 * (((l ++ [1]).length + 7) / 8) - (l ++ [1]).length = t at e
  rw [List.append_assoc] at e
  have e' : unpk (pk (l ++ [1])) = l ++ 1 :: List.replicate t 0 := e
  refine ⟨?_, by unfold rd; rw [e', unmark_eq]⟩
  unfold goodP
  have hne : pk (l ++ [1]) ≠ [] := by
    intro h; have := congrArg List.length h; rw [pk_len] at this; simp at this; omega
  obtain ⟨q, c, hq⟩ := snoc_ex hne
  rw [hq]
  simp only [List.getLast?_append, List.getLast?_singleton, Option.some_or, Option.getD_some, bne_iff_ne, ne_eq]
  intro hc0
  rw [hq, unpk_append, hc0] at e'
  -- the last eight bits are 0, and the mark is among them
  have hu : unpk [(0 : Int)] = List.replicate 8 0 := by decide
  rw [hu] at e'
  have hlen := congrArg List.length e'
  have hlq := congrArg List.length hq
  rw [pk_len] at hlq
  simp only [List.length_append, List.length_replicate, List.length_cons, unpk_len] at hlen hlq
  have ht : t < 8 := by
    have := pk_len (l ++ [1])
    have h1 := congrArg List.length e
    rw [unpk_len, pk_len] at h1
    simp at h1
    omega
  have hget := congrArg (fun x : List Int => x[l.length]?) e'
  rw [List.getElem?_append_right (by rw [unpk_len]; omega), List.getElem?_append_right (Nat.le_refl _), Nat.sub_self, List.getElem?_replicate] at hget
  split at hget <;> simp at hget
theorem pk_rd {p : List Int} (hb : Bytes p) (hg : goodP p = true) : pk (rd p ++ [1]) = p := by
  obtain ⟨j, e, hj⟩ := rd_split hb hg
  have h1 : unpk p = (rd p ++ [1]) ++ List.replicate j 0 := by rw [e, List.append_assoc]; rfl
  have hl := congrArg List.length h1
  rw [unpk_len] at hl
  simp only [List.length_append, List.length_replicate, List.length_singleton] at hl
  rw [← pk_pad _ j (by simp; omega), ← h1, pk_unpk hb]
theorem goodP_last {p : List Int} (h : p ≠ []) : goodP p = (p.getD (p.length - 1) 0 != 0) := by
  obtain ⟨q, c, rfl⟩ := snoc_ex h
  unfold goodP
  simp [List.getD]
theorem bitio_NewReader_L6_ok : bitio_NewReader_L6_Obl bitio_NewReader_L6_pre bitio_NewReader_L6_mu bitio_NewReader_L6_S := by
  intro p e c hp _ hc ⟨hl, h0, A, j, hA, hu, hj, hc1, he⟩ R rec ex Good hr hx
  have hc' := okByte hc
  unfold bitio_NewReader_L6_S at hr hx
  unfold bitio_NewReader_L6_mu bitio_NewReader_L6_pre at hr
  unfold bitio_NewReader_L6_T
  rw [band1 rfl hc'.1 (by simp [IntKind.bits]; omega), shr_eq (by omega) (by simp [IntKind.bits])]
  have hA8 := congrArg List.length hu
  rw [unpk_len] at hA8
  simp only [List.length_append, bitsOf_len, List.length_replicate] at hA8
  refine gE (fun h => ?_) (fun h => ?_)
  · have hj6 : j ≤ 6 := by
      refine Classical.byContradiction fun hn => ?_
      obtain rfl : j = 7 := by omega
      simp at hc1
      omega
    rw [w64 (by omega) (by omega)]
    refine hr _ _ ⟨hl, ?_, A, j + 1, hA, ?_, by omega, ?_, by omega⟩ ?_ rfl
    · rw [show (2 : Int) ^ (1 : Int).toNat = 2 from rfl]; omega
    · rw [hu, show 8 - j = (8 - (j + 1)) + 1 by omega, bitsOf, h, show (2 : Int) ^ (1 : Int).toNat = 2 from rfl, List.replicate_succ]
      simp only [List.append_assoc, List.singleton_append]
    · rw [show (2 : Int) ^ (1 : Int).toNat = 2 from rfl]
      rw [show 8 - j = (8 - (j + 1)) + 1 by omega, Int.pow_succ] at hc1
      omega
    · rw [show (2 : Int) ^ (1 : Int).toNat = 2 from rfl]; omega
  · refine hx _ ?_
    unfold rd
    rw [hu, show 8 - j = (7 - j) + 1 by omega, bitsOf, show c % 2 = 1 by omega, List.append_assoc, List.append_assoc, List.singleton_append, ← List.append_assoc, unmark_eq]
    simp [bitsOf_len]
    omega
theorem bitio_NewReader_ok : bitio_NewReader_Obl bitio_NewReader_pre bitio_NewReader_S := by
  intro p hp hl R k0 k1 Good h0 h1
  have hb := okBytes hp
  unfold bitio_NewReader_pre at hl
  unfold bitio_NewReader_S at h0 h1
  unfold bitio_NewReader_F
  refine gL fun n hn => gE (fun hz => ?_) (fun hz => ?_)
  · have : p = [] := List.eq_nil_of_length_eq_zero (by omega)
    subst this
    exact h0 (by rw [if_neg (by decide)])
  · have hne : p ≠ [] := by intro h; subst h; simp at hn; omega
    have hi : wi64 (n - 1) = ((p.length - 1 : Nat) : Int) := by rw [w64 (by omega) (by omega)]; omega
    have hg := goodP_last hne
    rw [hi, Int.toNat_natCast]
    refine gC ⟨by omega, by omega⟩ fun _ => gE (fun hc => ?_) (fun hc => ?_)
    · exact h0 (by rw [if_neg (by rw [hg, hc]; decide)])
    · have hgt : goodP p = true := by rw [hg]; simpa using hc
      rw [if_pos hgt] at h1
      have hw : wi64 (wi64 (8 * n) - 1) = 8 * n - 1 := by rw [w64 (x := 8 * n) (by omega) (by omega), w64 (by omega) (by omega)]
      rw [hw]
      obtain ⟨q, c, hq⟩ := snoc_ex hne
      have hcc : p.getD (p.length - 1) 0 = c := by rw [hq]; simp [List.getD]
      have hcb := hb c (by rw [hq]; simp)
      have hql : p.length = q.length + 1 := by rw [hq]; simp
      refine gL fun x6 h6 => gC ⟨by omega, by omega⟩ fun _ => gL fun x8 h8 => gNeed ⟨hl, ?_, unpk q, 0, unpk_bits q, ?_, by omega, ?_, ?_⟩ fun _ => gL fun e he => gNeed (by unfold slices_Clone_byte_byte_pre; rw [room_eq]; omega) fun _ => gL fun s hs => ?_
      · omega
      · rw [h8, hcc, hq, unpk_append]
        simp [unpk]
      · rw [h8, hcc, show (2 : Int) ^ (8 - 0) = 256 from rfl]; omega
      · rw [unpk_len, h6]; omega
      · subst he hs
        exact h1 _ _ _ rfl
theorem bitsOf_get : ∀ (n : Nat) (v : Int) (i : Nat), i < n → (bitsOf v n).getD i 0 = v / 2 ^ (n - 1 - i) % 2
  | n + 1, v, 0, _ => by rw [bitsOf_front]; simp
  | n + 1, v, i + 1, h => by
    rw [bitsOf_front, List.getD_cons_succ, bitsOf_get n v i (by omega), show n + 1 - 1 - (i + 1) = n - 1 - i by omega]
theorem unpk_get : ∀ (p : List Int) (i : Nat), i < 8 * p.length → (unpk p).getD i 0 = p.getD (i / 8) 0 / 2 ^ (7 - i % 8) % 2
  | [], i, h => by simp at h
  | c :: p, i, h => by
    rw [unpk_cons]
    by_cases h8 : i < 8
    · rw [List.getD, List.getElem?_append_left (by rw [bitsOf_len]; exact h8)]
      have := bitsOf_get 8 c i h8
      rw [List.getD] at this
      rw [this, show i / 8 = 0 by omega, show i % 8 = i by omega]
      rfl
    · rw [List.getD, List.getElem?_append_right (by rw [bitsOf_len]; omega), bitsOf_len]
      have := unpk_get p (i - 8) (by simp at h; omega)
      rw [List.getD] at this
      rw [this, show i / 8 = (i - 8) / 8 + 1 by omega, show (i - 8) % 8 = i % 8 by omega]
      rfl
theorem valOf_cons (b : Int) (l : List Int) : valOf (b :: l) = b * 2 ^ l.length + valOf l := by
  have := valOf_append [b] l
  rw [show valOf [b] = b by simp [valOf]] at this
  exact this
theorem take_front {l : List Int} {i : Nat} (h : i < l.length) (n : Nat) : (l.drop i).take (n + 1) = l.getD i 0 :: (l.drop (i + 1)).take n := by
  rw [List.drop_eq_getElem_cons h, List.take_succ_cons, List.getD, List.getElem?_eq_getElem h]
  rfl
theorem shl1_or {v b : Int} {i : Nat} (h0 : 0 ≤ v) (h1 : v < 2 ^ i) (hi : i ≤ 31) (hb : b = 0 ∨ b = 1) : bor .u32 (bshl .u32 v 1) b = 2 * v + b := by
  have hp : (2 : Int) ^ i ≤ 2 ^ 31 := by exact_mod_cast Nat.pow_le_pow_right (by omega) hi
  have e31 : (2 : Int) ^ 31 = 2147483648 := rfl
  have e32 : (2 : Int) ^ IntKind.u32.bits = 4294967296 := rfl
  have e1 : (2 : Int) ^ (1 : Int).toNat = 2 := rfl
  have e2 : (2 : Int) ^ 1 = 2 := rfl
  rw [shl_u rfl (by omega) (by simp [IntKind.bits]) h0 (by rw [e1, e32]; omega), e1]
  have := bor_low (k := .u32) rfl (q := v) (y := b) (s := 1) h0 (by omega) (by rw [e2]; omega) (by rw [e2, e32]; omega)
  rw [e2] at this
  rw [this]; omega
theorem take_step {v b : Int} {l : List Int} {m : Nat} (hl : l.length = m) : (2 * v + b) * 2 ^ m + valOf l = v * 2 ^ (m + 1) + valOf (b :: l) := by
  rw [valOf_cons, hl, Int.pow_succ, Int.add_mul, ← Int.mul_assoc, Int.mul_comm 2 v, Int.mul_assoc v 2, Int.mul_comm 2]
  rw [← Int.mul_assoc]
  omega
theorem bitio_Reader_Take_L7_ok : bitio_Reader_Take_L7_Obl bitio_Reader_Take_L7_pre bitio_Reader_Take_L7_mu bitio_Reader_Take_L7_S := by
  intro n e o v i at_ hv _ _ _ _ ho ⟨h0, h1, h2, hR, h3, hv2⟩ R rec ex Good hr hx
  have hv' := okU32 hv
  have hb := okBytes ho
  obtain ⟨r0, r1, r2, r3⟩ := hR
  unfold bitio_Reader_Take_L7_S at hr hx
  unfold bitio_Reader_Take_L7_mu bitio_Reader_Take_L7_pre at hr
  unfold bitio_Reader_Take_L7_T
  refine gD (fun hlt => ?_) (fun hlt => ?_)
  · have hq : wi64 (at_.tdiv 8) = ((at_.toNat / 8 : Nat) : Int) := by rw [Int.tdiv_eq_ediv_of_nonneg r0, w64 (by omega) (by omega)]; omega
    have hm : wi64 (7 - at_.tmod 8) = ((7 - at_.toNat % 8 : Nat) : Int) := by rw [Int.tmod_eq_emod_of_nonneg r0, w64 (by omega) (by omega)]; omega
    rw [hq, hm]
    refine gL fun x hx' => gC (by omega) fun _ => gL fun z hz => gNone (by omega) fun _ => ?_
    have hlt8 : at_.toNat / 8 < o.length := by omega
    have hc := hb (o.getD (at_.toNat / 8) 0) (by rw [List.getD, List.getElem?_eq_getElem hlt8]; exact List.getElem_mem hlt8)
    have hbit : wu32 (band .u8 (bshr .u8 (o.getD x.toNat 0) z) 1) = (unpk o).getD at_.toNat 0 := by
      rw [hx', hz, Int.toNat_natCast, shr_eq (by omega) (by simp [IntKind.bits]; omega), Int.toNat_natCast, unpk_get o at_.toNat (by omega)]
      have d0 : 0 ≤ o.getD (at_.toNat / 8) 0 / 2 ^ (7 - at_.toNat % 8) := Int.ediv_nonneg hc.1 (Int.le_of_lt (pow_pos2 _))
      have d1 := Int.ediv_le_self (2 ^ (7 - at_.toNat % 8)) hc.1
      rw [band1 rfl d0 (by simp only [IntKind.bits]; omega), wu32_id (by omega) (by omega)]
    have hbb : (unpk o).getD at_.toNat 0 = 0 ∨ (unpk o).getD at_.toNat 0 = 1 := by
      rw [unpk_get o at_.toNat (by omega)]; omega
    have hi31 : i.toNat ≤ 31 := by omega
    rw [hbit, shl1_or hv'.1 hv2 hi31 hbb, w64 (by omega) (by omega), w64 (by omega) (by omega)]
    refine hr _ _ _ ⟨by omega, by omega, h2, ⟨by omega, by omega, r2, r3⟩, by omega, ?_⟩ (by omega) ?_
    · rw [show (i + 1).toNat = i.toNat + 1 by omega, Int.pow_succ]; omega
    · rw [show (n - i).toNat = (n - (i + 1)).toNat + 1 by omega, take_front (by rw [unpk_len]; omega), show at_.toNat + 1 = (at_ + 1).toNat by omega]
      rw [take_step (by rw [List.length_take, List.length_drop, unpk_len]; omega)]
      congr 1
      omega
  · refine hx _ _ ?_
    rw [show (n - i).toNat = 0 by omega, show n - i = 0 by omega]
    simp [valOf]
theorem bitio_Reader_Take_ok : bitio_Reader_Take_Obl bitio_Reader_Take_pre bitio_Reader_Take_S := by
  intro n i e o _ _ _ ho hR R k Good hk
  obtain ⟨r0, r1, r2, r3⟩ := id hR
  unfold bitio_Reader_Take_S at hk
  unfold bitio_Reader_Take_F
  refine gD (fun h => by rw [if_pos (.inl h)] at hk; exact hk) fun h => gD (fun h' => by rw [if_pos (.inr h')] at hk; exact hk) fun h' => ?_
  rw [if_neg (by omega)] at hk
  rw [w64 (by omega) (by omega)]
  refine gD (fun h3 => by rw [if_pos h3] at hk; exact hk) fun h3 => ?_
  rw [if_neg h3] at hk
  refine gNeed ⟨by omega, by omega, by omega, hR, by omega, by decide⟩ fun _ => gL fun r hr => ?_
  subst hr
  unfold bitio_Reader_Take_L7_S
  rw [Int.sub_zero, Int.zero_mul, Int.zero_add]
  exact hk

theorem tk_ex {n i e : Int} {o : List Int} (h : ROK i e o) : ∃ v i', picture_TakeHeader_1_S n i e o = (v, (i', (e, o))) ∧ ROK i' e o ∧
    (0 ≤ n → n ≤ 32 → i + n ≤ e → v = valOf (((unpk o).drop i.toNat).take n.toNat) ∧ i' = i + n) := by
  obtain ⟨r0, r1, r2, r3⟩ := h
  unfold picture_TakeHeader_1_S bitio_Reader_Take_S
  by_cases h1 : n < 0 ∨ 32 < n
  · rw [if_pos h1]
    exact ⟨_, _, rfl, ⟨r0, r1, r2, r3⟩, fun _ _ => by omega⟩
  · rw [if_neg h1]
    by_cases h2 : e - i < n
    · rw [if_pos h2]
      exact ⟨_, _, rfl, ⟨r0, r1, r2, r3⟩, fun _ _ _ => by omega⟩
    · rw [if_neg h2]
      exact ⟨_, _, rfl, ⟨by omega, by omega, r2, r3⟩, fun _ _ _ => ⟨rfl, rfl⟩⟩
theorem valOf_u32 {l : List Int} (hb : Bits l) {n : Nat} (hl : l.length ≤ n) (hn : n ≤ 32) : 0 ≤ valOf l ∧ valOf l < 4294967296 := by
  have := valOf_bounds hb
  have hp : (2 : Int) ^ l.length ≤ 2 ^ 32 := by exact_mod_cast Nat.pow_le_pow_right (by omega) (by omega : l.length ≤ 32)
  have e : (2 : Int) ^ 32 = 4294967296 := rfl
  omega
theorem take_val {n i e : Int} {o : List Int} : 0 ≤ (bitio_Reader_Take_S n i e o).1 ∧ (bitio_Reader_Take_S n i e o).1 < 4294967296 := by
  unfold bitio_Reader_Take_S
  split
  · simp
  · split
    · simp
    · exact valOf_u32 (((unpk_bits o).drop _).take _) (n := n.toNat) (by rw [List.length_take]; omega) (by omega)
theorem picture_TakeHeader_1_ok : picture_TakeHeader_1_Obl picture_TakeHeader_1_pre picture_TakeHeader_1_S := by
  intro n i e o _ _ _ _ hR R k Good hk
  unfold picture_TakeHeader_1_S at hk
  refine gNeed hR fun _ => gL fun r hr => ?_
  subst hr
  have := take_val (n := n) (i := i) (e := e) (o := o)
  rw [w64 (by omega) (by omega)]
  exact hk
theorem cut_in {l : List Int} {m i n : Nat} (h : i + n ≤ m) : ((l.take m).drop i).take n = (l.drop i).take n := by
  rw [List.drop_take, List.take_take, Nat.min_eq_left (by omega)]
theorem b2i_val {b : Int} (h : b = 0 ∨ b = 1) : b2i (valOf [b] == 1) = b := by rcases h with rfl | rfl <;> decide
theorem hbits_hdr {L : List Int} (hb : Bits L) (hl : L.length = 17) : hbits (hdrOf L) = L := by
  unfold hbits hdrOf
  simp only
  have e1 := bitsOf_valOf (hb.take 10)
  have e2 := bitsOf_valOf ((hb.drop 10).take 2)
  have e3 := bitsOf_valOf ((hb.drop 12).take 2)
  rw [show (L.take 10).length = 10 by simp; omega] at e1
  rw [show ((L.drop 10).take 2).length = 2 by simp; omega] at e2
  rw [show ((L.drop 12).take 2).length = 2 by simp; omega] at e3
  rw [e1, e2, e3]
  obtain ⟨a, ha⟩ : ∃ a, (L.drop 14).take 1 = [a] := by
    match h : (L.drop 14).take 1, (by simp; omega : ((L.drop 14).take 1).length = 1) with
    | [a], _ => exact ⟨a, rfl⟩
  obtain ⟨b, hbb⟩ : ∃ a, (L.drop 15).take 1 = [a] := by
    match h : (L.drop 15).take 1, (by simp; omega : ((L.drop 15).take 1).length = 1) with
    | [a], _ => exact ⟨a, rfl⟩
  obtain ⟨c, hc⟩ : ∃ a, (L.drop 16).take 1 = [a] := by
    match h : (L.drop 16).take 1, (by simp; omega : ((L.drop 16).take 1).length = 1) with
    | [a], _ => exact ⟨a, rfl⟩
  have ba := (hb.drop 14).take 1 a (by rw [ha]; simp)
  have bb := (hb.drop 15).take 1 b (by rw [hbb]; simp)
  have bc := (hb.drop 16).take 1 c (by rw [hc]; simp)
  rw [ha, hbb, hc, b2i_val ba, b2i_val bb, b2i_val bc]
  have step : ∀ i n, (L.drop i).take n ++ L.drop (i + n) = L.drop i := fun i n => by rw [← List.drop_drop, List.take_append_drop]
  have s14 := step 14 1
  have s15 := step 15 1
  have s16 := step 16 1
  have s17 : L.drop 17 = [] := List.drop_eq_nil_of_le (by omega)
  rw [ha] at s14; rw [hbb] at s15; rw [hc] at s16
  have e : [a, b, c] = L.drop 14 := by
    rw [← s14, ← s15, ← s16, s17]; rfl
  rw [e, step 12 2, step 10 2, List.take_append_drop]
theorem bytesEq_iff {a b : List Int} (ha : Bytes a) (hb : Bytes b) : bytes_Equal_S a b = true ↔ a = b := same_iff ha hb
theorem picture_TakeHeader_J2_good {R : Type} {Good : Option R → Prop} {ex : Int → D_api_Pic → Option R} {u : D_api_Unit} {z : D_api_Pic} (hu : okT T_api_Unit u) (hl : (u.2.1.length : Int) ≤ 100000000000) (hg : goodP u.2.1 = true)
    (hk : Good (ex (takeHdr u).2 (takeHdr u).1)) : Good (picture_TakeHeader_J2_T ex 0 u z 0 (rd u.2.1).length u.2.1) := by
  have hb := okBytes hu.2.1
  have hlen := rd_len hb hg
  unfold picture_TakeHeader_J2_T
  refine gN (fun h => absurd rfl h) fun _ => gN (fun h => ?_) fun h181 => ?_
  · rw [show takeHdr u = (Z_pic, 3) from if_neg fun h' => h h'.1] at hk
    exact hk
  · have r0 : ROK 0 (rd u.2.1).length u.2.1 := ⟨by omega, by omega, by omega, hl⟩
    obtain ⟨v1, i1, e1, r1, q1⟩ := tk_ex (n := 10) r0
    obtain ⟨v2, i2, e2, r2, q2⟩ := tk_ex (n := 2) r1
    obtain ⟨v3, i3, e3, r3, q3⟩ := tk_ex (n := 2) r2
    obtain ⟨v4, i4, e4, r4, q4⟩ := tk_ex (n := 1) r3
    obtain ⟨v5, i5, e5, r5, q5⟩ := tk_ex (n := 1) r4
    obtain ⟨v6, i6, e6, r6, q6⟩ := tk_ex (n := 1) r5
    refine gNeed r0 fun _ => gL fun s1 h1 => ?_
    rw [e1] at h1; subst h1
    refine gNeed r1 fun _ => gL fun s2 h2 => ?_
    simp only at h2; rw [e2] at h2; subst h2
    refine gNeed r2 fun _ => gL fun s3 h3 => ?_
    simp only at h3; rw [e3] at h3; subst h3
    refine gL fun x21 hx21 => gNeed r3 fun _ => gL fun s4 h4 => ?_
    simp only at h4; rw [e4] at h4; subst h4
    refine gNeed r4 fun _ => gL fun s5 h5 => ?_
    simp only at h5; rw [e5] at h5; subst h5
    refine gNeed r5 fun _ => gL fun s6 h6 => ?_
    simp only at h6; rw [e6] at h6; subst h6
    refine gL fun x37 hx37 => gL fun x38 hx38 => gL fun x39 hx39 => ?_
    subst hx21 hx37 hx38
    simp only at hx39
    refine gNeed trivial fun _ => gL fun s7 h7 => ?_
    have p39 : x39 = (v2, (v3, (v1, (v4 == 1, (v5 == 1, (v6 == 1, ())))))) := hx39
    clear hx39
    unfold picture_PutHeader_S at h7
    by_cases h17 : (rd u.2.1).length = 17
    · have L := rd_bits _ hb hg
      obtain ⟨rfl, rfl⟩ := q1 (by omega) (by omega) (by omega)
      obtain ⟨rfl, rfl⟩ := q2 (by omega) (by omega) (by omega)
      obtain ⟨rfl, rfl⟩ := q3 (by omega) (by omega) (by omega)
      obtain ⟨rfl, rfl⟩ := q4 (by omega) (by omega) (by omega)
      obtain ⟨rfl, rfl⟩ := q5 (by omega) (by omega) (by omega)
      obtain ⟨rfl, rfl⟩ := q6 (by omega) (by omega) (by omega)
      have hx : x39 = hdrOf (rd u.2.1) := by
        rw [p39]
        unfold hdrOf
        have key : ∀ i n : Nat, i + n ≤ 17 → ((rd u.2.1).drop i).take n = ((unpk u.2.1).drop i).take n := fun i n h => by
          rw [← rd_take hb hg, h17]; exact cut_in h
        have key0 : (rd u.2.1).take 10 = (unpk u.2.1).take 10 := by have := key 0 10 (by omega); simpa using this
        rw [key0, key 10 2 (by omega), key 12 2 (by omega), key 14 1 (by omega), key 15 1 (by omega), key 16 1 (by omega)]
        rfl
      by_cases hp : picOk x39 = true
      · rw [if_pos hp] at h7
        subst h7
        refine gN (fun h => absurd rfl h) fun _ => gNeed trivial fun _ => gL fun r hr => ?_
        have heq : r = true := by
          rw [hr]
          refine (bytesEq_iff (pk_bytes _ ((hbits_bits _).append (Bits.one (.inr rfl)))) hb).2 ?_
          rw [hx, hbits_hdr L h17, pk_rd hb hg]
        rw [heq]
        refine gNB (fun h => by cases h) fun _ => ?_
        rw [show takeHdr u = (hdrOf (rd u.2.1), 0) from if_pos ⟨h181, hg, h17, by rw [← hx]; exact hp⟩] at hk
        rw [hx]
        exact hk
      · rw [if_neg hp] at h7
        subst h7
        refine gN (fun _ => ?_) fun h => by simp at h
        rw [show takeHdr u = (Z_pic, 3) from if_neg fun h' => hp (by rw [hx]; exact h'.2.2.2)] at hk
        exact hk
    · rw [show takeHdr u = (Z_pic, 3) from if_neg fun h' => h17 h'.2.2.1] at hk
      by_cases hp : picOk x39 = true
      · rw [if_pos hp] at h7
        subst h7
        refine gN (fun h => absurd rfl h) fun _ => gNeed trivial fun _ => gL fun r hr => ?_
        have heq : r = false := by
          rw [hr, Bool.eq_false_iff]
          intro ht
          have := (bytesEq_iff (pk_bytes _ ((hbits_bits x39).append (Bits.one (.inr rfl)))) hb).1 ht
          refine h17 ?_
          rw [← this, (rd_pk (hbits_bits x39)).2, hbits_len]
        rw [heq]
        exact gNB (fun _ => hk) fun h => by cases h
      · rw [if_neg hp] at h7
        subst h7
        exact gN (fun _ => hk) fun h => by simp at h
theorem picture_TakeHeader_ok : picture_TakeHeader_Obl picture_TakeHeader_pre picture_TakeHeader_S := by
  intro u hu hl R k Good hk
  unfold picture_TakeHeader_S at hk
  unfold picture_TakeHeader_pre at hl
  refine gNeed hl fun _ => gS (fun a ha => ?_) (fun b hb => ?_)
  · unfold bitio_NewReader_S at ha
    split at ha
    · cases ha
    · rename_i hg
      rw [show takeHdr u = (Z_pic, 3) from if_neg fun h' => hg h'.2.1] at hk
      exact hk
  · unfold bitio_NewReader_S at hb
    split at hb
    · rename_i hg
      have := (Sum.inr.inj hb).symm
      subst this
      exact picture_TakeHeader_J2_good hu hl hg hk
    · cases hb
theorem cutroomref02_Open_L5_ok : cutroomref02_Open_L5_Obl cutroomref02_Open_L5_pre cutroomref02_Open_L5_mu cutroomref02_Open_L5_S := by
  intro p i l hp _ _ ⟨hl, h0, h1, he⟩ R rec ex Good hr hx
  have hb := okBytes hp
  have hrm := room_eq
  unfold cutroomref02_Open_L5_S at hr hx
  unfold cutroomref02_Open_L5_mu cutroomref02_Open_L5_pre at hr
  refine gD (fun h => gC ⟨h0, h⟩ fun _ => gL fun c hc => gNeed ⟨by omega, by omega⟩ fun _ => gL fun o ho => ?_) (fun h => ?_)
  · have hi : i.toNat < p.length := by omega
    have hcb := hb (p.getD i.toNat 0) (by rw [List.getD, List.getElem?_eq_getElem hi]; exact List.getElem_mem hi)
    rw [wu32_id (by omega) (by omega)] at hc
    have hol : o.length = 8 := by rw [ho]; exact bitsOf_len _ _
    have hll : l.length = 8 * i.toNat := by rw [he, unpk_len]; simp; omega
    refine gC (by omega) fun _ => ?_
    rw [w64 (by omega) (by omega)]
    refine hr _ _ ⟨hl, by omega, by omega, ?_⟩ (by omega) rfl
    rw [show (i + 1).toNat = i.toNat + 1 by omega, List.take_succ_eq_append_getElem hi, unpk_append, ← he]
    congr 1
    rw [ho, hc, List.getD, List.getElem?_eq_getElem hi]
    simp [unpk, cutroomref02_Bits_S]
  · refine hx _ ?_
    rw [he, List.take_of_length_le (by omega)]
theorem cutroomref02_Open_L9_ok : cutroomref02_Open_L9_Obl cutroomref02_Open_L9_pre cutroomref02_Open_L9_mu cutroomref02_Open_L9_S := by
  intro l e _ _ ⟨hl, A, j, he, h0, h1⟩ R rec ex Good hr hx
  unfold cutroomref02_Open_L9_S at hr hx
  unfold cutroomref02_Open_L9_mu cutroomref02_Open_L9_pre at hr
  refine gC ⟨by omega, by omega⟩ fun _ => gE (fun hz => ?_) (fun hz => ?_)
  · have hne : (A.length : Int) ≠ e := by
      intro h
      rw [he, show e.toNat = A.length by omega] at hz
      simp [List.getD] at hz
    rw [w64 (by omega) (by omega)]
    exact hr _ ⟨hl, A, j, he, by omega, by omega⟩ (by omega) rfl
  · refine hx _ ?_
    rw [he, unmark_eq]
    refine Classical.byContradiction fun hn => hz ?_
    rw [he] at h1 ⊢
    rw [List.getD, List.getElem?_append_right (by omega), show e.toNat - A.length = (e.toNat - A.length - 1) + 1 by omega, List.getElem?_cons_succ, List.getElem?_replicate]
    split <;> rfl
theorem cutroomref02_Open_ok : cutroomref02_Open_Obl cutroomref02_Open_pre cutroomref02_Open_S := by
  intro p hp hl R k0 k1 Good h0 h1
  have hb := okBytes hp
  unfold cutroomref02_Open_pre at hl
  unfold cutroomref02_Open_S at h0 h1
  unfold cutroomref02_Open_F
  refine gE (fun hz => ?_) (fun hz => ?_)
  · have : p = [] := List.eq_nil_of_length_eq_zero (by omega)
    subst this
    exact h0 (by rw [if_neg (by decide)])
  · have hne : p ≠ [] := by intro h; subst h; simp at hz
    have hi : wi64 ((p.length : Int) - 1) = ((p.length - 1 : Nat) : Int) := by rw [w64 (by omega) (by omega)]; omega
    have hg := goodP_last hne
    rw [hi]
    refine gL fun x hx => gC (by omega) fun _ => ?_
    rw [hx, Int.toNat_natCast]
    refine gE (fun hc => ?_) (fun hc => ?_)
    · exact h0 (by rw [if_neg (by rw [hg, hc]; decide)])
    · have hgt : goodP p = true := by rw [hg]; simpa using hc
      rw [if_pos hgt] at h1
      have hul := unpk_len p
      have hrl := rd_len hb hgt
      refine gNeed ⟨hl, by omega, by omega, rfl⟩ fun _ => gL fun l13 h13 => gL fun x15 h15 => ?_
      unfold cutroomref02_Open_L5_S at h13
      subst h13
      rw [w64 (by omega) (by omega)] at h15
      obtain ⟨j, e, hj⟩ := rd_split hb hgt
      refine gNeed ⟨by omega, rd p, j, e, by omega, by omega⟩ fun _ => gL fun en hen => ?_
      unfold cutroomref02_Open_L9_S at hen
      have hen' : en = ((rd p).length : Int) := hen
      refine gC (by omega) fun _ => ?_
      rw [hen', Int.toNat_natCast, Nat.sub_zero]
      exact h1 _ _ _ _ rfl
theorem cutroomref02_Reader_Left_ok : cutroomref02_Reader_Left_Obl cutroomref02_Reader_Left_pre cutroomref02_Reader_Left_S := by
  intro off len i o _ _ hQ R k Good hk
  obtain ⟨q0, q1, q2, q3, q4⟩ := hQ
  unfold cutroomref02_Reader_Left_F
  rw [w64 (by omega) (by omega)]
  exact hk
theorem cutroomref02_Reader_Take_L7_ok : cutroomref02_Reader_Take_L7_Obl cutroomref02_Reader_Take_L7_pre cutroomref02_Reader_Take_L7_mu cutroomref02_Reader_Take_L7_S := by
  intro n off len at_ o v i _ hv _ _ _ ⟨hQ, h0, h1, h2, h3, hv2⟩ R rec ex Good hr hx
  have hv' := okU32 hv
  obtain ⟨q0, q1, q2, q3, q4⟩ := id hQ
  unfold cutroomref02_Reader_Take_L7_S at hr hx
  unfold cutroomref02_Reader_Take_L7_mu cutroomref02_Reader_Take_L7_pre at hr
  unfold cutroomref02_Reader_Take_L7_T
  refine gD (fun hlt => ?_) (fun hlt => ?_)
  · rw [w64 (x := at_ + i) (by omega) (by omega)]
    refine gL fun x hx' => gC (by omega) fun _ => ?_
    have hlo : off + x.toNat < o.length := by omega
    have hbb := q4 (o.getD (off + x.toNat) 0) (by rw [List.getD, List.getElem?_eq_getElem hlo]; exact List.getElem_mem hlo)
    rw [wu32_id (by omega) (by omega), shl1_or hv'.1 hv2 (by omega) hbb, w64 (by omega) (by omega)]
    refine hr _ _ ⟨hQ, by omega, by omega, h2, h3, ?_⟩ (by omega) ?_
    · rw [show (i + 1).toNat = i.toNat + 1 by omega, Int.pow_succ]; omega
    · rw [show (n - i).toNat = (n - (i + 1)).toNat + 1 by omega, ← hx', take_front hlo, show off + x.toNat + 1 = off + (at_ + (i + 1)).toNat by omega]
      rw [take_step (by rw [List.length_take, List.length_drop]; omega)]
  · refine hx _ ?_
    rw [show (n - i).toNat = 0 by omega]
    simp [valOf]
theorem cutroomref02_Reader_Take_ok : cutroomref02_Reader_Take_Obl cutroomref02_Reader_Take_pre cutroomref02_Reader_Take_S := by
  intro n off len i o _ _ _ hQ R k Good hk
  obtain ⟨q0, q1, q2, q3, q4⟩ := id hQ
  unfold cutroomref02_Reader_Take_S at hk
  unfold cutroomref02_Reader_Take_F
  refine gD (fun h => by rw [if_pos (.inl h)] at hk; exact hk) fun h => gD (fun h' => by rw [if_pos (.inr h')] at hk; exact hk) fun h' => ?_
  rw [if_neg (by omega)] at hk
  refine gNeed hQ fun _ => gL fun r hr => ?_
  subst hr
  unfold cutroomref02_Reader_Left_S
  refine gD (fun h3 => by rw [if_pos h3] at hk; exact hk) fun h3 => ?_
  simp only at h3
  rw [if_neg h3] at hk
  refine gNeed ⟨hQ, by omega, by omega, by omega, by simp only; omega, by decide⟩ fun _ => gL fun r hr => ?_
  subst hr
  unfold cutroomref02_Reader_Take_L7_S
  simp only
  rw [Int.sub_zero, Int.zero_mul, Int.zero_add, Int.add_zero, w64 (by omega) (by omega)]
  exact hk
theorem rtk {n i : Int} {off len : Nat} {o : List Int} (h0 : 0 ≤ n) (h1 : n ≤ 32) (h2 : i + n ≤ len) :
    cutroomref02_Reader_Take_S n off len i o = (valOf ((o.drop (off + i.toNat)).take n.toNat), 0, off, len, i + n, o) := by
  unfold cutroomref02_Reader_Take_S
  rw [if_neg (by omega), if_neg (by omega)]
theorem cutroomref11_TakeHeader_J2_good {R : Type} {Good : Option R → Prop} {ex : Int → D_api_Pic → Option R} {u : D_api_Unit} {z : D_api_Pic} (hu : okT T_api_Unit u) (hl : (u.2.1.length : Int) ≤ 100000000000) (hg : goodP u.2.1 = true)
    (hk : Good (ex (takeHdr u).2 (takeHdr u).1)) : Good (cutroomref11_TakeHeader_J2_T ex 0 u z 0 (rd u.2.1).length 0 (unpk u.2.1)) := by
  have hb := okBytes hu.2.1
  have hlen := rd_len hb hg
  have hul := unpk_len u.2.1
  unfold cutroomref11_TakeHeader_J2_T
  refine gN (fun h => absurd rfl h) fun _ => gN (fun h => ?_) fun h181 => ?_
  · rw [show takeHdr u = (Z_pic, 3) from if_neg fun h' => h h'.1] at hk
    exact hk
  · have q : ∀ i : Int, 0 ≤ i → i ≤ (rd u.2.1).length → QOK 0 (rd u.2.1).length i (unpk u.2.1) := fun i a b => ⟨a, by omega, by omega, by omega, unpk_bits _⟩
    refine gNeed (q 0 (by omega) (by omega)) fun _ => gL fun r hr => ?_
    subst hr
    unfold cutroomref02_Reader_Left_S
    refine gN (fun h => ?_) fun h17 => ?_
    · rw [show takeHdr u = (Z_pic, 3) from if_neg fun h' => h (by simp only; omega)] at hk
      exact hk
    · simp only at h17 ⊢
      have h17' : (rd u.2.1).length = 17 := by omega
      have L := rd_bits _ hb hg
      have tv : ∀ i n : Nat, n ≤ 32 → 0 ≤ valOf (((unpk u.2.1).drop i).take n) ∧ valOf (((unpk u.2.1).drop i).take n) < 4294967296 := fun i n h =>
        valOf_u32 (((unpk_bits _).drop _).take _) (n := n) (by rw [List.length_take]; omega) h
      refine gNeed (q 0 (by omega) (by omega)) fun _ => gL fun s1 h1 => ?_
      rw [rtk (by omega) (by omega) (by omega)] at h1; subst h1
      refine gNeed (q (0 + 10) (by omega) (by omega)) fun _ => gL fun s2 h2 => ?_
      simp only at h2; rw [rtk (by omega) (by omega) (by omega)] at h2; subst h2
      refine gNeed (q (0 + 10 + 2) (by omega) (by omega)) fun _ => gL fun s3 h3 => ?_
      simp only at h3; rw [rtk (by omega) (by omega) (by omega)] at h3; subst h3
      refine gNeed (q (0 + 10 + 2 + 2) (by omega) (by omega)) fun _ => gL fun s4 h4 => ?_
      simp only at h4; rw [rtk (by omega) (by omega) (by omega)] at h4; subst h4
      refine gNeed (q (0 + 10 + 2 + 2 + 1) (by omega) (by omega)) fun _ => gL fun s5 h5 => ?_
      simp only at h5; rw [rtk (by omega) (by omega) (by omega)] at h5; subst h5
      refine gNeed (q (0 + 10 + 2 + 2 + 1 + 1) (by omega) (by omega)) fun _ => gL fun s6 h6 => ?_
      simp only at h6; rw [rtk (by omega) (by omega) (by omega)] at h6; subst h6
      refine gL fun x hx => gNeed trivial fun _ => gL fun r hr => ?_
      have hx : x = hdrOf (rd u.2.1) := by
        rw [hx]
        unfold hdrOf
        have key : ∀ i n : Nat, i + n ≤ 17 → ((rd u.2.1).drop i).take n = ((unpk u.2.1).drop i).take n := fun i n h => by
          rw [← rd_take hb hg, h17']; exact cut_in h
        have key0 : (rd u.2.1).take 10 = ((unpk u.2.1).drop 0).take 10 := by have := key 0 10 (by omega); simpa using this
        rw [key0, key 10 2 (by omega), key 12 2 (by omega), key 14 1 (by omega), key 15 1 (by omega), key 16 1 (by omega)]
        have t1 := tv 0 10 (by omega)
        have t2 := tv 10 2 (by omega)
        have t3 := tv 12 2 (by omega)
        simp only
        rw [w64 (x := valOf _) (by exact Int.le_trans (by omega) t2.1) (by exact Int.le_trans (Int.le_of_lt t2.2) (by omega)),
          w64 (x := valOf _) (by exact Int.le_trans (by omega) t3.1) (by exact Int.le_trans (Int.le_of_lt t3.2) (by omega)),
          w64 (x := valOf _) (by exact Int.le_trans (by omega) t1.1) (by exact Int.le_trans (Int.le_of_lt t1.2) (by omega))]
        rfl
      unfold cutroomref11_header_S at hr
      subst hr
      refine gNB (fun h => ?_) fun h => ?_
      · rw [show takeHdr u = (Z_pic, 3) from if_neg fun h' => by rw [hx] at h; rw [h] at h'; exact absurd h'.2.2.2 (by decide)] at hk
        exact hk
      · rw [show takeHdr u = (hdrOf (rd u.2.1), 0) from if_pos ⟨h181, hg, h17', by rw [← hx]; exact h⟩] at hk
        rw [hx]
        exact hk
theorem cutroomref11_TakeHeader_ok : cutroomref11_TakeHeader_Obl cutroomref11_TakeHeader_pre cutroomref11_TakeHeader_S := by
  intro u hu hl R k Good hk
  unfold cutroomref11_TakeHeader_S at hk
  unfold cutroomref11_TakeHeader_pre at hl
  refine gNeed hl fun _ => gS (fun a ha => ?_) (fun b hb => ?_)
  · unfold cutroomref02_Open_S at ha
    split at ha
    · cases ha
    · rename_i hg
      rw [show takeHdr u = (Z_pic, 3) from if_neg fun h' => hg h'.2.1] at hk
      exact hk
  · unfold cutroomref02_Open_S at hb
    split at hb
    · rename_i hg
      have := (Sum.inr.inj hb).symm
      subst this
      exact cutroomref11_TakeHeader_J2_good hu hl hg hk
    · cases hb
theorem eqB_pic (h : D_api_Pic) : Ty.eqB T_api_Pic h h = true := by simp [Ty.eqB]
theorem cutroomlaw11_PictureHeaders_ok : cutroomlaw11_PictureHeaders_Obl cutroomlaw11_PictureHeaders_pre cutroomlaw11_PictureHeaders_S := by
  intro h u hh hu _ R k Good hk
  have sameU : ∀ a : D_api_Unit, cutroomref03_SameUnit_S a a = true := fun a => by
    unfold cutroomref03_SameUnit_S; rw [same_self]; simp
  have back : picOk h = true → takeHdr (181, (pk (hbits h ++ [1]), ())) = (h, 0) := fun hp => by
    have hr := rd_pk (hbits_bits h)
    have e : hdrOf (hbits h) = h := by
      have hb := okPic hp
      obtain ⟨a, b, c, d, f, g, z⟩ := h
      simp only at hb
      have l10 := bitsOf_len 10 c
      have l2 := bitsOf_len 2 a
      have l2' := bitsOf_len 2 b
      unfold hdrOf hbits
      simp only
      have d10 : ∀ t : List Int, (bitsOf c 10 ++ t).drop 10 = t := fun t => List.drop_left' l10
      have d12 : ∀ t : List Int, (bitsOf c 10 ++ (bitsOf a 2 ++ t)).drop 12 = t := fun t => by
        rw [show 12 = 10 + 2 from rfl, ← List.drop_drop, d10]; exact List.drop_left' l2
      have d14 : ∀ t : List Int, (bitsOf c 10 ++ (bitsOf a 2 ++ (bitsOf b 2 ++ t))).drop 14 = t := fun t => by
        rw [show 14 = 12 + 2 from rfl, ← List.drop_drop, d12]; exact List.drop_left' l2'
      have d15 : ∀ x t, (bitsOf c 10 ++ (bitsOf a 2 ++ (bitsOf b 2 ++ x :: t))).drop 15 = t := fun x t => by
        rw [show 15 = 14 + 1 from rfl, ← List.drop_drop, d14]; rfl
      have d16 : ∀ x y t, (bitsOf c 10 ++ (bitsOf a 2 ++ (bitsOf b 2 ++ x :: y :: t))).drop 16 = t := fun x y t => by
        rw [show 16 = 14 + 2 from rfl, ← List.drop_drop, d14]; rfl
      rw [d10, d12, d14, d15, d16, List.take_left' l10, List.take_left' l2, List.take_left' l2']
      rw [valOf_bitsOf_id (n := 10) (by omega) (by rw [show (2 : Int) ^ 10 = 1024 from rfl]; omega), valOf_bitsOf_id (n := 2) (by omega) (by rw [show (2 : Int) ^ 2 = 4 from rfl]; omega),
        valOf_bitsOf_id (n := 2) (by omega) (by rw [show (2 : Int) ^ 2 = 4 from rfl]; omega)]
      cases d <;> cases f <;> cases g <;> rfl
    unfold takeHdr
    simp only
    rw [hr.2, e, if_pos ⟨trivial, hr.1, hbits_len h, hp⟩]
  have tail : Good (k true) → ∀ f : D_api_Pic × Int → D_api_Pic × Int → Bool → Option R, (f = fun a b r => if r = true then (if (a.2 == b.2) = true then k (Ty.eqB T_api_Pic a.1 b.1) else k false) else k false) → (u.2.1.length : Int) ≤ 200 →
      Good (need (picture_TakeHeader_pre u) (lett (picture_TakeHeader_S u) fun a => need (cutroomref11_TakeHeader_pre u) (lett (cutroomref11_TakeHeader_S u) fun b => need cutroomlaw11_awake_pre (lett cutroomlaw11_awake_S fun r => f a b r)))) := fun hk f hf hl => by
    refine gNeed (by unfold picture_TakeHeader_pre; omega) fun _ => gL fun a ha => gNeed (by unfold cutroomref11_TakeHeader_pre; omega) fun _ => gL fun b hb => awake_pass ?_
    have hab : a = b := by rw [ha, hb]; rfl
    subst hab
    rw [hf]
    simp only [if_true, beq_self_eq_true]
    rw [eqB_pic]
    exact hk
  unfold cutroomlaw11_PictureHeaders_F
  refine gD (fun _ => hk) fun hl => gNeed trivial fun _ => gL fun a ha => gNeed trivial fun _ => gL fun b hb => ?_
  unfold cutroomref11_PutHeader_S at hb
  have hab : b = a := by rw [ha, hb]
  subst hab
  refine gN (fun hn => absurd rfl hn) fun _ => gNeed trivial fun _ => gL fun r hr => ?_
  rw [sameU] at hr
  subst hr
  refine gNB (fun hn => by cases hn) fun _ => ?_
  unfold picture_PutHeader_S at ha
  by_cases hp : picOk h = true
  · rw [if_pos hp] at ha
    subst ha
    refine gE (fun _ => gNeed ?_ fun _ => gL fun t ht => ?_) (fun hn => absurd rfl hn)
    · unfold picture_TakeHeader_pre
      simp only
      rw [pk_len]
      simp [hbits_len]
    · unfold picture_TakeHeader_S at ht
      rw [back hp] at ht
      subst ht
      refine gN (fun hn => absurd rfl hn) fun _ => ?_
      rw [eqB_pic]
      refine gNB (fun hn => by cases hn) fun _ => ?_
      exact tail hk _ rfl (by omega)
  · rw [if_neg hp] at ha
    subst ha
    refine gE (fun hn => by simp at hn) fun _ => ?_
    exact tail hk _ rfl (by omega)
theorem cutroomlaw11_PictureHeaders_law (h : D_api_Pic) (u : D_api_Unit) (_ : okT T_api_Pic h) (_ : okT T_api_Unit u) : cutroomlaw11_PictureHeaders_pre h u ∧ cutroomlaw11_PictureHeaders_S h u = true := ⟨trivial, rfl⟩

theorem wu64_of {x : Int} {y : Int} (hy0 : 0 ≤ y) (hy1 : y ≤ 18446744073709551615) (h : ∃ k, x = y + k * 18446744073709551616) : wu64 x = y := by
  obtain ⟨k, rfl⟩ := h
  unfold wu64 IntKind.wrap
  simp [IntKind.bits, IntKind.signed]
  omega
theorem wu64_spec (x : Int) : ∃ k, wu64 x = x + k * 18446744073709551616 := by
  unfold wu64 IntKind.wrap
  simp [IntKind.bits, IntKind.signed]
  exact ⟨-(x / 18446744073709551616), by omega⟩
theorem rational_abs_ok : rational_abs_Obl rational_abs_pre rational_abs_S := by
  intro x hx _ R k Good hk
  have hx' := okInt hx
  unfold rational_abs_S at hk
  refine gD (fun h => ?_) (fun h => ?_)
  · obtain ⟨q, hq⟩ := wu64_spec x
    rw [wu64_of (y := x.natAbs) (by omega) (by omega) ⟨-q, by omega⟩]
    exact hk
  · rw [wu64_id (by omega) (by omega)]
    rw [show ((x.natAbs : Nat) : Int) = x by omega] at hk
    exact hk
theorem cutroomref01_mag_ok : cutroomref01_mag_Obl cutroomref01_mag_pre cutroomref01_mag_S := by
  intro x hx _ R k Good hk
  have hx' := okInt hx
  unfold cutroomref01_mag_S at hk
  refine gD (fun h => ?_) (fun h => ?_)
  · rw [w64 (x := x + 1) (by omega) (by omega), w64 (by omega) (by omega), wu64_id (x := 0 - (x + 1)) (by omega) (by omega), wu64_id (by omega) (by omega)]
    rw [show ((x.natAbs : Nat) : Int) = 0 - (x + 1) + 1 by omega] at hk
    exact hk
  · rw [wu64_id (by omega) (by omega)]
    rw [show ((x.natAbs : Nat) : Int) = x by omega] at hk
    exact hk
theorem gcd_step {a b : Int} (ha : 0 ≤ a) (hb : 0 ≤ b) : Int.gcd b (a.tmod b) = Int.gcd a b := by
  obtain ⟨m, rfl⟩ := Int.eq_ofNat_of_zero_le ha
  obtain ⟨n, rfl⟩ := Int.eq_ofNat_of_zero_le hb
  rw [Int.tmod_eq_emod_of_nonneg (by omega), ← Int.natCast_emod, Int.gcd_natCast_natCast, Int.gcd_natCast_natCast, Nat.gcd_comm n, ← Nat.gcd_rec, Nat.gcd_comm]
theorem rational_gcd_L1_ok : rational_gcd_L1_Obl rational_gcd_L1_pre rational_gcd_L1_mu rational_gcd_L1_S := by
  intro a b ha hb _ R rec ex Good hr hx
  have ha' := okU64 ha
  have hb' := okU64 hb
  unfold rational_gcd_L1_S at hr hx
  unfold rational_gcd_L1_mu at hr
  refine gN (fun h => gNone h fun _ => ?_) (fun h => ?_)
  · have := Int.tmod_lt_of_pos a (show 0 < b by omega)
    exact hr _ _ trivial (by omega) (by rw [gcd_step ha'.1 hb'.1])
  · exact hx _ (by rw [h]; simp; omega)
theorem rational_gcd_ok : rational_gcd_Obl rational_gcd_pre rational_gcd_S := fun a b _ _ _ R k Good hk => gNeed trivial fun _ => gL fun x hx => by subst hx; exact hk
theorem cutroomref01_gcd_L1_ok : cutroomref01_gcd_L1_Obl cutroomref01_gcd_L1_pre cutroomref01_gcd_L1_mu cutroomref01_gcd_L1_S := by
  intro a b ha hb _ R rec ex Good hr hx
  have ha' := okU64 ha
  have hb' := okU64 hb
  unfold cutroomref01_gcd_L1_S at hr hx
  unfold cutroomref01_gcd_L1_mu at hr
  refine gN (fun h => gNone h fun _ => ?_) (fun h => ?_)
  · have := Int.tmod_lt_of_pos a (show 0 < b by omega)
    exact hr _ _ trivial (by omega) (by rw [gcd_step ha'.1 hb'.1])
  · exact hx _ (by rw [h]; simp; omega)
theorem cutroomref01_gcd_ok : cutroomref01_gcd_Obl cutroomref01_gcd_pre cutroomref01_gcd_S := fun a b _ _ _ R k Good hk => gNeed trivial fun _ => gL fun x hx => by subst hx; exact hk
theorem rat_gcd1 {g : Nat} : (((g : Nat) : Int) == 1) = decide (g = 1) := by
  by_cases h : g = 1
  · subst h; rfl
  · simp [h]; omega
theorem rational_Valid_ok : rational_Valid_Obl rational_Valid_pre rational_Valid_S := by
  intro r hr _ R k Good hk
  have h1 := okInt hr.1
  have h2 := okInt hr.2.1
  unfold rational_Valid_S ratOk at hk
  refine gD (fun h3 => gD (fun h4 => gNeed trivial fun _ => gL fun x hx => gNeed trivial fun _ => gL fun y hy => ?_) (fun h4 => ?_)) (fun h3 => ?_)
  · subst hx
    rw [wu64_id (by omega) (by omega)] at hy
    unfold rational_abs_S rational_gcd_S at hy
    subst hy
    rw [rat_gcd1]
    rw [show decide (1 ≤ r.2.1 ∧ -9223372036854775807 ≤ r.1 ∧ Int.gcd r.1.natAbs r.2.1 = 1) = decide (Int.gcd r.1.natAbs r.2.1 = 1) from decide_eq_decide.2 ⟨fun h => h.2.2, fun h => ⟨by omega, by omega, h⟩⟩] at hk
    exact hk
  · rw [decide_eq_false (fun h => h4 h.2.1)] at hk; exact hk
  · rw [decide_eq_false (fun h => h3 h.1)] at hk; exact hk
theorem cutroomref01_Valid_ok : cutroomref01_Valid_Obl cutroomref01_Valid_pre cutroomref01_Valid_S := by
  intro r hr _ R k Good hk
  have h1 := okInt hr.1
  have h2 := okInt hr.2.1
  unfold cutroomref01_Valid_S ratOk at hk
  refine gD (fun h3 => gD (fun h4 => gNeed trivial fun _ => gL fun x hx => gNeed trivial fun _ => gL fun y hy => ?_) (fun h4 => ?_)) (fun h3 => ?_)
  · subst hx
    rw [wu64_id (by omega) (by omega)] at hy
    unfold cutroomref01_mag_S cutroomref01_gcd_S at hy
    subst hy
    rw [rat_gcd1]
    rw [show decide (1 ≤ r.2.1 ∧ -9223372036854775807 ≤ r.1 ∧ Int.gcd r.1.natAbs r.2.1 = 1) = decide (Int.gcd r.1.natAbs r.2.1 = 1) from decide_eq_decide.2 ⟨fun h => h.2.2, fun h => ⟨by omega, by omega, h⟩⟩] at hk
    exact hk
  · rw [decide_eq_false (fun h => h4 h.2.1)] at hk; exact hk
  · rw [decide_eq_false (fun h => h3 h.1)] at hk; exact hk
theorem slices_Min_byte_byte_L5_ok : slices_Min_byte_byte_L5_Obl slices_Min_byte_byte_L5_pre slices_Min_byte_byte_L5_mu slices_Min_byte_byte_L5_S := by
  intro x m i hxo _ _ ⟨h0, h1⟩ R rec ex Good hr hx
  have hm := okSl hxo
  unfold slices_Min_byte_byte_L5_S at hr hx
  unfold slices_Min_byte_byte_L5_mu slices_Min_byte_byte_L5_pre at hr
  refine gD (fun h => gC ⟨h0, h⟩ fun _ => gL fun c hc => ?_) (fun h => ?_)
  · rw [dropAt h0 h 0, ← hc] at hr
    rw [w64 (by omega) (by omega)]
    exact hr _ _ ⟨by omega, by omega⟩ (by omega) rfl
  · exact hx _ (by rw [List.drop_eq_nil_of_le (by omega)]; rfl)
theorem slices_Min_byte_byte_ok : slices_Min_byte_byte_Obl slices_Min_byte_byte_pre slices_Min_byte_byte_S := by
  intro x _ hp R k Good hk
  unfold slices_Min_byte_byte_pre at hp
  refine gD (fun h => by omega) fun h => gC ⟨by omega, by omega⟩ fun _ => gL fun c hc => gNeed ⟨by omega, by omega⟩ fun _ => gL fun r hr => ?_
  subst hr
  unfold slices_Min_byte_byte_L5_S
  unfold slices_Min_byte_byte_S at hk
  cases x with
  | nil => simp at hp
  | cons a l => subst hc; exact hk
theorem minL_ge : ∀ (l : List Int) (m z : Int), decide (z ≤ minL m l) = (decide (z ≤ m) && l.all fun x => decide (z ≤ x))
  | [], m, z => by
    simp only [List.all_nil, Bool.and_true]
    exact decide_eq_decide.2 Iff.rfl
  | a :: l, m, z => by
    have := minL_ge l (if a < m then a else m) z
    unfold minL at this ⊢
    rw [List.foldl_cons, this]
    simp only [List.all_cons]
    rw [← Bool.and_assoc]
    congr 1
    split
    · rw [← Bool.decide_and, decide_eq_decide]; omega
    · rw [← Bool.decide_and, decide_eq_decide]; omega
theorem quant_Valid_ok : quant_Valid_Obl quant_Valid_pre quant_Valid_S := by
  intro m hm _ R k Good hk
  have hl : m.length = 64 := hm.1
  refine gNeed (by unfold slices_Min_byte_byte_pre; omega) fun _ => gL fun r hr => ?_
  subst hr
  unfold slices_Min_byte_byte_S
  unfold quant_Valid_S matOk at hk
  cases m with
  | nil => simp at hl
  | cons a l =>
    have := minL_ge l a 8
    rw [show decide (minL ((a :: l).headD 0) (a :: l).tail ≥ 8) = (decide (8 ≤ a) && l.all fun x => decide (8 ≤ x)) from this]
    exact hk
theorem cutroomref06_Valid_L2_ok : cutroomref06_Valid_L2_Obl cutroomref06_Valid_L2_pre cutroomref06_Valid_L2_mu cutroomref06_Valid_L2_S := by
  intro m i _ hm ⟨h0, h1⟩ R rec ex0 ex1 Good hr hx0 hx1
  have hl : m.length = 64 := hm.1
  unfold cutroomref06_Valid_L2_S at hr hx0 hx1
  unfold cutroomref06_Valid_L2_mu cutroomref06_Valid_L2_pre at hr
  refine gD (fun h => gC ⟨h0, h⟩ fun _ => gC (by omega) fun _ => ?_) (fun h => ?_)
  · have hd := dropAt h0 (show i < m.length by omega) (0 : Int)
    refine gD (fun h8 => ?_) (fun h8 => ?_)
    · refine hx0 _ ?_
      rw [hd, if_neg]
      unfold matOk
      rw [List.all_cons, decide_eq_false (by omega)]
      simp
    · rw [w64 (by omega) (by omega)]
      refine hr _ ⟨by omega, by omega⟩ (by omega) ?_
      rw [hd]
      have : matOk (m.getD i.toNat 0 :: m.drop (i + 1).toNat) = matOk (m.drop (i + 1).toNat) := by
        unfold matOk
        simp only [List.all_cons, Bool.and_eq_right_iff_imp, decide_eq_true_eq]
        intro _; omega
      rw [this]
  · refine hx1 ?_
    rw [List.drop_eq_nil_of_le (by omega)]
    rfl
theorem cutroomref06_Valid_ok : cutroomref06_Valid_Obl cutroomref06_Valid_pre cutroomref06_Valid_S := by
  intro m _ _ R k Good hk
  unfold cutroomref06_Valid_S at hk
  refine gNeed ⟨by omega, by omega⟩ fun _ => gS (fun a ha => ?_) (fun b hb => ?_)
  · unfold cutroomref06_Valid_L2_S at ha
    rw [show (0 : Int).toNat = 0 from rfl, List.drop_zero] at ha
    split at ha
    · cases ha
    · rename_i hn
      obtain rfl := Sum.inl.inj ha
      rw [show matOk m = false by simpa using hn] at hk
      exact hk
  · unfold cutroomref06_Valid_L2_S at hb
    rw [show (0 : Int).toNat = 0 from rfl, List.drop_zero] at hb
    split at hb
    · rename_i hn; rw [hn] at hk; exact hk
    · cases hb

theorem tm16 {x : Int} (h : 0 ≤ x) (n : Int) : x.tmod n = x % n := Int.tmod_eq_emod_of_nonneg h
theorem prod_bounds {a b A B : Int} (h0 : 0 ≤ a) (h1 : a ≤ A) (h2 : 0 ≤ b) (h3 : b ≤ B) : 0 ≤ a * b ∧ a * b ≤ A * B :=
  ⟨Int.mul_nonneg h0 h2, Int.mul_le_mul h1 h3 h2 (Int.le_trans h0 h1)⟩
theorem seq_arith {a b c d : Int} (h1 : 1 ≤ a) (h2 : a ≤ 1048576) (h3 : b ≤ 65536) (h3' : 1 ≤ b) (h4 : 1 ≤ c) (h5 : c ≤ 16777216) (h6 : 1 ≤ d) (h7 : d ≤ 8388608) :
    wi64 (wi64 (2 * a) * d) = 2 * a * d ∧ wi64 (wi64 (wi64 (3 * b) * c) + wi64 (32 * a)) = 3 * b * c + 32 * a := by
  have p1 := prod_bounds (a := 2 * a) (A := 2097152) (b := d) (B := 8388608) (by omega) (by omega) (by omega) h7
  have p2 := prod_bounds (a := 3 * b) (A := 196608) (b := c) (B := 16777216) (by omega) (by omega) (by omega) h5
  rw [w64 (x := 2 * a) (by omega) (by omega), w64 (x := 2 * a * d) (by omega) (by omega), w64 (x := 3 * b) (by omega) (by omega), w64 (x := 3 * b * c) (by omega) (by omega),
    w64 (x := 32 * a) (by omega) (by omega), w64 (by omega) (by omega)]
  exact ⟨rfl, rfl⟩
theorem ratOk_den {r : D_api_Rat} (h : ratOk r = true) : 1 ≤ r.2.1 := (of_decide_eq_true h).1
theorem picture_ValidSeq_J4_good {R : Type} {Good : Option R → Prop} {ex : Bool → Option R} {s : D_api_Seq} {high : Int} (hs : okT T_api_Seq s) (hh : high = if s.2.2.2.1 = true then 32 else 16)
    (hk : Good (ex (seqOk s))) : Good (picture_ValidSeq_J4_T ex high s) := by
  have hpos : high ≠ 0 := by rw [hh]; split <;> omega
  have no : ∀ {p : Prop}, (seqOk s = true → p) → ¬ p → Good (ex false) := fun {p} h hn => by
    rw [show seqOk s = false from Bool.eq_false_iff.2 fun h' => hn (h h')] at hk; exact hk
  have yes := fun h : seqOk s = true => of_decide_eq_true h
  unfold picture_ValidSeq_J4_T
  refine gD (fun h => no (fun y => (yes y).1) (by omega)) fun c1 => ?_
  refine gD (fun h => no (fun y => (yes y).2.1) (by omega)) fun c2 => ?_
  rw [tm16 (by omega)]
  refine gN (fun h => no (fun y => (yes y).2.2.1) h) fun c3 => ?_
  refine gD (fun h => no (fun y => (yes y).2.2.2.1) (by omega)) fun c4 => ?_
  refine gD (fun h => no (fun y => (yes y).2.2.2.2.1) (by omega)) fun c5 => ?_
  refine gNone hpos fun _ => ?_
  rw [tm16 (by omega)]
  refine gN (fun h => no (fun y => (yes y).2.2.2.2.2.1) (by rw [← hh]; exact h)) fun c6 => ?_
  refine gNeed trivial fun _ => gL fun r hr => ?_
  subst hr
  unfold rational_Valid_S
  refine gNB (fun h => no (fun y => (yes y).2.2.2.2.2.2.1) (by rw [h]; decide)) fun c7 => ?_
  refine gD (fun h => no (fun y => (yes y).2.2.2.2.2.2.2.1) (by omega)) fun c8 => ?_
  refine gD (fun h => no (fun y => (yes y).2.2.2.2.2.2.2.2.1) (by omega)) fun c9 => ?_
  refine gD (fun h => no (fun y => (yes y).2.2.2.2.2.2.2.2.2.1) (by omega)) fun c10 => ?_
  refine gD (fun h => no (fun y => (yes y).2.2.2.2.2.2.2.2.2.2.1) (by omega)) fun c11 => ?_
  refine gD (fun h => no (fun y => (yes y).2.2.2.2.2.2.2.2.2.2.2.1) (by omega)) fun c12 => ?_
  refine gD (fun h => no (fun y => (yes y).2.2.2.2.2.2.2.2.2.2.2.2.1) (by omega)) fun c13 => ?_
  refine gD (fun h => no (fun y => (yes y).2.2.2.2.2.2.2.2.2.2.2.2.2.1) (by omega)) fun c14 => ?_
  have c15 := ratOk_den c7
  have ar := seq_arith (a := s.2.2.1.1) (b := s.2.2.1.2.1) (c := s.2.2.2.2.1) (d := s.2.2.2.2.2.1) (by omega) (by omega) (by omega) c15 (by omega) (by omega) (by omega) (by omega)
  rw [ar.1, ar.2]
  refine gD (fun c16 => ?_) (fun h => no (fun y => (yes y).2.2.2.2.2.2.2.2.2.2.2.2.2.2.1) (by omega))
  refine gNeed trivial fun _ => gL fun r hr => ?_
  subst hr
  unfold quant_Valid_S
  refine gB (fun c17 => ?_) (fun h => no (fun y => (yes y).2.2.2.2.2.2.2.2.2.2.2.2.2.2.2.1) (by rw [h]; decide))
  refine gNeed trivial fun _ => gL fun r hr => ?_
  subst hr
  have fin : seqOk s = matOk s.2.2.2.2.2.2.2.1 := by
    rw [Bool.eq_iff_iff]
    refine ⟨fun y => (yes y).2.2.2.2.2.2.2.2.2.2.2.2.2.2.2.2, fun h => decide_eq_true ⟨?_, ?_, c3, ?_, ?_, ?_, c7, ?_, ?_, ?_, ?_, ?_, ?_, ?_, c16, c17, h⟩⟩ <;> first | omega | skip
    rw [← hh]; exact c6
  rw [fin] at hk
  exact hk
theorem picture_ValidSeq_ok : picture_ValidSeq_Obl picture_ValidSeq_pre picture_ValidSeq_S := by
  intro s hs _ R k Good hk
  unfold picture_ValidSeq_S at hk
  exact gB (fun h => picture_ValidSeq_J4_good hs (by rw [if_pos h]) hk) (fun h => picture_ValidSeq_J4_good hs (by rw [if_neg (by rw [h]; decide)]) hk)
theorem cutroomref11_ValidSeq_J3_good {R : Type} {Good : Option R → Prop} {ex : Bool → Option R} {s : D_api_Seq} (hs : okT T_api_Seq s)
    (h1 : 16 ≤ s.1 ∧ s.1 ≤ 64 ∧ s.1 % 16 = 0 ∧ 16 ≤ s.2.1 ∧ s.2.1 ≤ 64 ∧ s.2.1 % (if s.2.2.2.1 = true then 32 else 16) = 0)
    (hk : Good (ex (seqOk s))) : Good (cutroomref11_ValidSeq_J3_T ex s) := by
  have no : ∀ {p : Prop}, (seqOk s = true → p) → ¬ p → Good (ex false) := fun {p} h hn => by
    rw [show seqOk s = false from Bool.eq_false_iff.2 fun h' => hn (h h')] at hk; exact hk
  have yes := fun h : seqOk s = true => of_decide_eq_true h
  unfold cutroomref11_ValidSeq_J3_T
  refine gNeed trivial fun _ => gL fun r hr => ?_
  subst hr
  unfold cutroomref01_Valid_S
  refine gNB (fun h => no (fun y => (yes y).2.2.2.2.2.2.1) (by rw [h]; decide)) fun c7 => ?_
  refine gD (fun h => no (fun y => (yes y).2.2.2.2.2.2.2.1) (by omega)) fun c8 => ?_
  refine gD (fun h => no (fun y => (yes y).2.2.2.2.2.2.2.2.1) (by omega)) fun c9 => ?_
  refine gD (fun h => no (fun y => (yes y).2.2.2.2.2.2.2.2.2.1) (by omega)) fun c10 => ?_
  refine gD (fun h => no (fun y => (yes y).2.2.2.2.2.2.2.2.2.2.1) (by omega)) fun c11 => ?_
  refine gD (fun h => no (fun y => (yes y).2.2.2.2.2.2.2.2.2.2.2.1) (by omega)) fun c12 => ?_
  refine gD (fun h => no (fun y => (yes y).2.2.2.2.2.2.2.2.2.2.2.2.1) (by omega)) fun c13 => ?_
  refine gD (fun h => no (fun y => (yes y).2.2.2.2.2.2.2.2.2.2.2.2.2.1) (by omega)) fun c14 => ?_
  have c15 := ratOk_den c7
  have ar := seq_arith (a := s.2.2.1.1) (b := s.2.2.1.2.1) (c := s.2.2.2.2.1) (d := s.2.2.2.2.2.1) (by omega) (by omega) (by omega) c15 (by omega) (by omega) (by omega) (by omega)
  rw [ar.1, ar.2]
  refine gD (fun h => no (fun y => (yes y).2.2.2.2.2.2.2.2.2.2.2.2.2.2.1) (by omega)) fun c16 => ?_
  refine gNeed trivial fun _ => gL fun r hr => ?_
  subst hr
  unfold cutroomref06_Valid_S
  refine gB (fun c17 => ?_) (fun h => no (fun y => (yes y).2.2.2.2.2.2.2.2.2.2.2.2.2.2.2.1) (by rw [h]; decide))
  refine gNeed trivial fun _ => gL fun r hr => ?_
  subst hr
  have fin : seqOk s = matOk s.2.2.2.2.2.2.2.1 := by
    rw [Bool.eq_iff_iff]
    refine ⟨fun y => (yes y).2.2.2.2.2.2.2.2.2.2.2.2.2.2.2.2, fun h => decide_eq_true ⟨h1.1, h1.2.1, h1.2.2.1, h1.2.2.2.1, h1.2.2.2.2.1, h1.2.2.2.2.2, c7, ?_, ?_, ?_, ?_, ?_, ?_, ?_, ?_, c17, h⟩⟩ <;> omega
  rw [fin] at hk
  exact hk
theorem cutroomref11_ValidSeq_ok : cutroomref11_ValidSeq_Obl cutroomref11_ValidSeq_pre cutroomref11_ValidSeq_S := by
  intro s hs _ R k Good hk
  unfold cutroomref11_ValidSeq_S at hk
  have no : ∀ {p : Prop}, (seqOk s = true → p) → ¬ p → Good (k false) := fun {p} h hn => by
    rw [show seqOk s = false from Bool.eq_false_iff.2 fun h' => hn (h h')] at hk; exact hk
  have yes := fun h : seqOk s = true => of_decide_eq_true h
  unfold cutroomref11_ValidSeq_F
  refine gD (fun h => no (fun y => (yes y).1) (by omega)) fun c1 => ?_
  refine gD (fun h => no (fun y => (yes y).2.1) (by omega)) fun c2 => ?_
  rw [tm16 (by omega)]
  refine gN (fun h => no (fun y => (yes y).2.2.1) h) fun c3 => ?_
  refine gD (fun h => no (fun y => (yes y).2.2.2.1) (by omega)) fun c4 => ?_
  refine gD (fun h => no (fun y => (yes y).2.2.2.2.1) (by omega)) fun c5 => ?_
  rw [tm16 (by omega), tm16 (by omega)]
  have c6' : seqOk s = true → s.2.1 % 16 = 0 := fun y => by
    have := (yes y).2.2.2.2.2.1
    split at this <;> omega
  refine gN (fun h => no c6' h) fun c6 => ?_
  refine gB (fun hi => gN (fun h => no (fun y => by have := (yes y).2.2.2.2.2.1; rw [if_pos hi] at this; exact this) h) fun c66 => ?_) (fun hi => ?_)
  · exact cutroomref11_ValidSeq_J3_good hs ⟨by omega, by omega, c3, by omega, by omega, by rw [if_pos hi]; exact c66⟩ hk
  · exact cutroomref11_ValidSeq_J3_good hs ⟨by omega, by omega, c3, by omega, by omega, by rw [if_neg (by rw [hi]; decide)]; exact c6⟩ hk
theorem picture_Valid_ok : picture_Valid_Obl picture_Valid_pre picture_Valid_S := by
  intro s h _ _ _ R k Good hk
  unfold picture_Valid_S hdrFits at hk
  refine gNeed trivial fun _ => gL fun r hr => ?_
  subst hr
  refine gNB (fun c => by unfold picture_ValidSeq_S at c; rw [c] at hk; exact hk) fun c => gNeed trivial fun _ => gL fun r hr => ?_
  subst hr
  unfold picture_ValidSeq_S at c
  rw [c] at hk
  refine gNB (fun c => by unfold picture_coded_S at c; rw [c] at hk; exact hk) fun c => ?_
  unfold picture_coded_S at c
  rw [c] at hk
  refine gB (fun hi => by rw [hi] at hk; exact hk) fun hi => ?_
  rw [hi] at hk
  refine gE (fun h3 => gB (fun ht => by rw [h3, ht] at hk; exact hk) fun ht => by rw [ht] at hk; simpa using hk) fun h3 => ?_
  rw [show (h.2.1 == 3) = false by simpa using h3] at hk
  exact hk
theorem cutroomref11_Valid_ok : cutroomref11_Valid_Obl cutroomref11_Valid_pre cutroomref11_Valid_S := by
  intro s h _ _ _ R k Good hk
  unfold cutroomref11_Valid_S hdrFits at hk
  refine gNeed trivial fun _ => gL fun r hr => ?_
  subst hr
  refine gB (fun c => gNeed trivial fun _ => gL fun r hr => ?_) (fun c => by unfold cutroomref11_ValidSeq_S at c; rw [c] at hk; exact hk)
  subst hr
  unfold cutroomref11_ValidSeq_S at c
  rw [c] at hk
  refine gB (fun c => ?_) (fun c => by unfold cutroomref11_header_S at c; rw [c] at hk; exact hk)
  unfold cutroomref11_header_S at c
  rw [c] at hk
  refine gB (fun hi => by rw [hi] at hk; exact hk) fun hi => ?_
  rw [hi] at hk
  refine gE (fun h3 => gB (fun ht => by rw [h3, ht] at hk; exact hk) fun ht => by rw [ht] at hk; simpa using hk) fun h3 => ?_
  rw [show (h.2.1 == 3) = false by simpa using h3] at hk
  exact hk
theorem fits_H {s : D_api_Seq} {h : D_api_Pic} (hf : hdrFits s h = true) : 16 ≤ s.2.1 ∧ s.2.1 ≤ 64 := by
  unfold hdrFits at hf
  simp only [Bool.and_eq_true] at hf
  have := of_decide_eq_true hf.1.1
  exact ⟨this.2.2.2.1, this.2.2.2.2.1⟩
theorem picture_Rows_ok : picture_Rows_Obl picture_Rows_pre picture_Rows_S := by
  intro s h _ _ _ R k Good hk
  unfold picture_Rows_S rowsOf at hk
  refine gNeed trivial fun _ => gL fun r hr => ?_
  subst hr
  unfold picture_Valid_S
  refine gNB (fun c => by rw [c] at hk; exact hk) fun c => ?_
  rw [if_pos c] at hk
  have hb := fits_H c
  rw [Int.tdiv_eq_ediv_of_nonneg (by omega), Int.tdiv_eq_ediv_of_nonneg (by omega), w64 (x := s.2.1 / 16) (by omega) (by omega), w64 (x := s.2.1 / 32) (by omega) (by omega)]
  exact gE (fun h3 => by rw [if_pos h3] at hk; exact hk) fun h3 => by rw [if_neg h3] at hk; exact hk
theorem cutroomref11_Rows_ok : cutroomref11_Rows_Obl cutroomref11_Rows_pre cutroomref11_Rows_S := by
  intro s h _ _ _ R k Good hk
  unfold cutroomref11_Rows_S rowsOf at hk
  refine gNeed trivial fun _ => gL fun r hr => ?_
  subst hr
  unfold cutroomref11_Valid_S
  refine gNB (fun c => by rw [c] at hk; exact hk) fun c => ?_
  rw [if_pos c] at hk
  have hb := fits_H c
  rw [Int.tdiv_eq_ediv_of_nonneg (by omega), Int.tdiv_eq_ediv_of_nonneg (by omega), w64 (x := s.2.1 / 16) (by omega) (by omega), w64 (x := s.2.1 / 32) (by omega) (by omega)]
  exact gE (fun h3 => by rw [if_pos h3] at hk; exact hk) fun h3 => by rw [if_neg h3] at hk; exact hk
theorem cutroomlaw11_PictureSeqs_ok : cutroomlaw11_PictureSeqs_Obl cutroomlaw11_PictureSeqs_pre cutroomlaw11_PictureSeqs_S := by
  intro s h _ _ _ R k Good hk
  unfold cutroomlaw11_PictureSeqs_S at hk
  refine awake_pass ?_
  rw [if_pos rfl]
  refine gNeed trivial fun _ => gL fun a ha => gNeed trivial fun _ => gL fun b hb => ?_
  subst ha hb
  have e1 : (picture_ValidSeq_S s == cutroomref11_ValidSeq_S s) = true := by unfold picture_ValidSeq_S cutroomref11_ValidSeq_S; simp
  rw [if_pos e1]
  refine gNeed trivial fun _ => gL fun a ha => gNeed trivial fun _ => gL fun b hb => ?_
  subst ha hb
  have e2 : (picture_Valid_S s h == cutroomref11_Valid_S s h) = true := by unfold picture_Valid_S cutroomref11_Valid_S; simp
  rw [if_pos e2]
  refine gNeed trivial fun _ => gL fun a ha => gNeed trivial fun _ => gL fun b hb => ?_
  subst ha hb
  have e3 : (picture_Rows_S s h == cutroomref11_Rows_S s h) = true := by unfold picture_Rows_S cutroomref11_Rows_S; simp
  rw [e3]
  exact hk
theorem cutroomlaw11_PictureSeqs_law (s : D_api_Seq) (h : D_api_Pic) (_ : okT T_api_Seq s) (_ : okT T_api_Pic h) : cutroomlaw11_PictureSeqs_pre s h ∧ cutroomlaw11_PictureSeqs_S s h = true := ⟨trivial, rfl⟩

end Go.Proofs.Ytlmdhmieiejkfaa
