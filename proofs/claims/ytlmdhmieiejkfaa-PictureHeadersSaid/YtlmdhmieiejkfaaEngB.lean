/- The engine: a machine that runs loaded code on plain data, and its soundness against the model. -/
import Derived.Test.YtlmdhmieiejkfaaEngA
import Derived.LoopN
import Derived.Orders
/- The engine, part 18: literals of structs and arrays; slices of slices; minimum and maximum. -/
namespace Go.Eng

section
variable {P : Program} {C : Ctx} {Rr : Type} {r : Rr} {k : AV → Option Rr}

theorem fits_VR {E : Env} {ob : Store} {μ : Mu} {w : World} {x : AV} {v : Value} {t : Ty} (hf : x.fits ob t = true) (h : VR E ob μ w x v) : CR E ob μ w x t v.cells.toList ∧ Shape t v := by
  obtain ⟨T, h1, h2, h3, h4⟩ := h.cells hf
  exact ⟨h1.retype hf, fun ha => h2.1 (by rw [← h4]; exact ha), fun ha => h2.2 (by rw [← h4]; exact ha)⟩

theorem fillK_sound {ob : Store} {T : Ty} : ∀ {parts : List (Nat × AV)} {l : AV} {k : AV → Option Rr}, fillK ob T l parts k = some r →
    ∃ l', k l' = some r ∧ ∀ {E : Env} {μ : Mu} {w : World} {vs : List (Nat × Value)} {cells : Array Value} {place : Nat → Option (Nat × Nat)}, PartsR E ob μ w parts vs →
      l.isL T = true → CR E ob μ w l T cells.toList → (∀ i tf, T.fldTy i = some tf → ∃ o, pathOff T [.fld i] = some (o, tf) ∧ place i = some (o, tf.size)) →
      ∃ cells', Instr.fill place cells vs = some cells' ∧ CR E ob μ w l' T cells'.toList
  | [], l, k, h => by
    rw [fillK] at h
    refine ⟨l, h, fun {E μ w vs cells place} hp hl hc _ => ?_⟩
    cases vs with
    | nil => exact ⟨cells, rfl, hc⟩
    | cons a b => exact hp.elim
  | (i, a) :: rest, l, k, h => by
    rw [fillK] at h
    split at h
    · rename_i tf hT
      split at h
      · rename_i hf
        obtain ⟨l', h1, h2⟩ := fillK_sound h
        refine ⟨l', h1, fun {E μ w vs cells place} hp hl hc hpl => ?_⟩
        cases vs with
        | nil => exact hp.elim
        | cons x vs =>
          obtain ⟨j, v⟩ := x
          obtain ⟨rfl, hv, hp⟩ := hp
          obtain ⟨o, p1, p2⟩ := hpl i tf hT
          obtain ⟨c1, _⟩ := fits_VR hf (typed_VR (t := tf) hv)
          obtain ⟨s1, s2⟩ := setNth_sound hl hc p1 c1
          have hlc := hc.len
          obtain ⟨cells1, e1, e2⟩ := fill_step (rest := vs) (cells := cells) p2 c1.len (by simp at hlc; omega)
          rw [e1]
          exact h2 hp (setNth_isL hl) (by rw [e2]; exact s2) hpl
      · cases h
    · cases h

theorem run_mapM {α β : Type} (f : α → Sem β) (g : α → β) (w : World) : ∀ (l : List α), (∀ x ∈ l, (f x).run P w = .ok (g x) w) → (l.mapM f).run P w = .ok (l.map g) w
  | [], _ => by simp
  | x :: l, h => by
    have h1 := h x (by simp)
    have h2 := run_mapM f g w l (fun y hy => h y (by simp [hy]))
    simp [List.mapM_cons, h1, h2]

theorem FOK.all {t : Ty} {r : List Field} {o : Nat} (h : FOK P t r o) : ∀ f ∈ r, ∃ tf, TOK P tf f.type := by
  induction t generalizing r o with
  | pair a b _ ihb =>
    simp only [FOK] at h
    obtain ⟨f, r', rfl, _, _, hx, hy⟩ := h
    intro g hg
    rcases List.mem_cons.1 hg with rfl | hg
    · exact ⟨_, hx⟩
    · exact ihb hy g hg
  | unit => simp only [FOK] at h; subst h; intro f hf; cases hf
  | _ => simp [FOK] at h

/-- the places of a struct's fields -/
theorem struct_places {a b : Ty} {T : TypeId} (h : TOK P (.pair a b) T) : ∃ fs, P.underlying T = some (.struct fs) ∧
    ∃ places : Array (Nat × Nat), (∀ w, (fs.mapM fun (f : Field) => (do pure (f.offset, ← sizeOf f.type) : Sem (Nat × Nat))).run P w = .ok places w) ∧
      ∀ i tf, (Ty.pair a b).fldTy i = some tf → ∃ o, pathOff (.pair a b) [.fld i] = some (o, tf) ∧ places[i]? = some (o, tf.size) := by
  have h0 := h
  simp only [TOK] at h
  obtain ⟨_, _, fs, f, r, hu, hf, ho, hn, hx, hy⟩ := h
  have hk : FOK P (.pair a b) fs.toList 0 := by
    simp only [FOK]; exact ⟨f, r, hf, ho, hn, hx, by simpa using hy⟩
  refine ⟨fs, hu, (fs.toList.map fun f => (f.offset, P.cellsOf f.type)).toArray, fun w => ?_, fun i tf hT => ?_⟩
  · rw [Array.mapM_eq_mapM_toList]
    have := run_mapM (P := P) (fun f : Field => (do pure (f.offset, ← sizeOf f.type) : Sem (Nat × Nat))) (fun f => (f.offset, P.cellsOf f.type)) w fs.toList (fun f hf => by
      obtain ⟨tf, htf⟩ := hk.all f hf
      obtain ⟨i, z, hi, hsz, _⟩ := htf.head
      simp [htf.sizeOf, Program.cellsOf, hi, hsz])
    rw [Sem.run_map, this]; rfl
  · obtain ⟨f', o', h1, h2, h3, h4⟩ := hk.nth hT
    refine ⟨o', h3, ?_⟩
    obtain ⟨i, z, hi, hsz, _⟩ := h2.head
    simp only [List.getElem?_toArray, List.getElem?_map, h1, Option.map_some, Program.cellsOf, hi, Option.getD_some, hsz, h4, Nat.zero_add]

theorem allV_plain : {l : AV} → {k : Bool → (t : Ty) → t.D → Option Rr} → plainV l k = some r → True := fun _ => trivial

theorem buildK_sound (hC : CtxT P C) {ob : Store} {T : TypeId} {t : Ty} (hT : C.TT T = some t) {parts : List (Nat × AV)} (h : buildK ob t parts k = some r) :
    ∃ z, k z = some r ∧ ∀ {E : Env} {μ : Mu} {w : World} {vs : Array (Nat × Value)}, PartsR E ob μ w parts vs.toList → ∃ v, (∀ w', (Instr.build T vs).run P w' = .ok v w') ∧ VR E ob μ w z v := by
  have hTok := hC.tt _ _ hT
  obtain ⟨z0, hz0, hz1, hz2⟩ := hTok.zero
  clear hz2
  unfold buildK at h
  split at h
  · rename_i a b
    split at h
    · rename_i hs
      obtain ⟨l', h1, h2⟩ := fillK_sound h
      obtain ⟨fs, hu, places, hp1, hp2⟩ := struct_places hTok
      have hsp : (Ty.pair a b).spine = true := by simp only [Ty.spineOk, Bool.and_eq_true] at hs; simpa [Ty.spine] using hs.1.2
      have run : ∀ {E : Env} {μ : Mu} {w : World} {vs : Array (Nat × Value)}, PartsR E ob μ w parts vs.toList →
          ∃ cells : Array Value, (∀ w', (Instr.build T vs).run P w' = .ok (.agg cells) w') ∧ CR E ob μ w l' (.pair a b) cells.toList := fun {E μ w vs} hp => by
        have hz := zeroL_CR E ob μ w (.pair a b) hsp hs
        rw [← hz1] at hz
        obtain ⟨cells, e1, e2⟩ := h2 (cells := z0.cells) (place := (places[·]?)) hp hz.2 hz.1 hp2
        have e1' : Instr.fill (places[·]?) z0.cells vs.toList = some cells := e1
        exact ⟨cells, fun w' => by simp only [Instr.build, Sem.run_bind, hz0, run_underlying' hu, Result.andThen_ok, hp1, e1', Sem.run_pure], e2⟩
      split at h1
      · obtain ⟨g, t, d, h3, h4⟩ := plainV_sound h1
        refine ⟨_, h3, fun hp => ?_⟩
        obtain ⟨cells, e1, e2⟩ := run hp
        obtain ⟨rfl, e3⟩ := h4 e2
        exact ⟨_, e1, VR.v_iff.2 ⟨e3, fun _ => ⟨_, rfl⟩, fun h => by simp [Ty.isAgg] at h⟩⟩
      · refine ⟨_, h1, fun hp => ?_⟩
        obtain ⟨cells, e1, e2⟩ := run hp
        exact ⟨_, e1, VR.of_cells (T := .pair a b) (by simp only [CR]; exact ⟨⟨a, b, rfl⟩, e2⟩) ⟨fun _ => ⟨_, rfl⟩, fun h => by simp [Ty.isAgg] at h⟩⟩
    · cases h
  · rename_i n t
    split at h
    · rename_i hpl
      obtain ⟨g, l, h1, h2, h3⟩ := listK_sound h
      obtain ⟨e, hu, he⟩ := hTok.arrElem
      refine ⟨_, h1, fun {E μ w vs} hp => ?_⟩
      have hz := zero_row w (Sb E ob μ true) hpl n
      have : (List.replicate n t.zeros).flatten = z0.cells.toList := by rw [hz1]; rfl
      rw [this] at hz
      obtain ⟨cells, e1, e2⟩ := h3 hp hz
      refine ⟨.agg cells, fun w' => by simp [Instr.build, hz0, run_underlying' hu, he.sizeOf, e1], VR.v_iff.2 ⟨?_, fun _ => ⟨_, rfl⟩, fun h => by simp [Ty.isAgg] at h⟩⟩
      simp only [R, Value.cells]
      simp only [List.length_replicate] at h2
      exact ⟨h2, by rw [e2.1, h2], e2.2⟩
    · cases h
  · cases h

/-! ### slices of slices -/

theorem cutL_len {α : Type} (l : List α) {a b : Nat} (h : b ≤ l.length) : (cutL l a b).length = b - a := by simp [cutL]; omega
theorem cutL_get {α : Type} (l : List α) {a b i : Nat} (h : b ≤ l.length) (hi : i < b - a) : (cutL l a b)[i]'(by rw [cutL_len l h]; exact hi) = l[a + i]'(by omega) := by simp [cutL]

theorem slice_run {T e : TypeId} {t : Ty} (hu : P.underlying T = some (.slice e)) (he : TOK P t e) {p : Option Addr} {len cap a b m : Nat} {vlo vhi vmx : Option Value}
    (hb : ∀ w', (Instr.sliceBounds true len cap vlo vhi vmx).run P w' = .ok (a, b, m) w') (w : World) :
    (Instr.sliceAt T (.slice p len cap) vlo vhi vmx).run P w = .ok (.slice (if m = a then p else p.map (·.add (a * t.size))) (b - a) (m - a)) w := by
  simp [Instr.sliceAt, Instr.slice, run_underlying' hu, hb, he.sizeOf]

theorem sliceK_sound (hC : CtxT P C) {st : St} {T : TypeId} {x : AV} {lo hi mx : Option AV} (h : sliceK C st T x lo hi mx k = some r) :
    ∃ z, k z = some r ∧ ∀ {E : Env} {μ : Mu} {w : World} {v0 : Value} {vlo vhi vmx : Option Value}, Rel E st.ob μ w → VR E st.ob μ w x v0 → OR E st.ob μ w lo vlo → OR E st.ob μ w hi vhi → OR E st.ob μ w mx vmx →
      ∃ v, (∀ w', (Instr.sliceAt T v0 vlo vhi vmx).run P w' = .ok v w') ∧ VR E st.ob μ w z v := by
  unfold sliceK at h
  split at h
  · rename_i t hT
    obtain ⟨e, hu, he⟩ := (hC.tt _ _ hT).slElem
    split at h
    · rename_i g t0 l0
      split at h
      · rename_i t' l
        split at h
        · rename_i ht; subst ht
          obtain ⟨a, b, h1, h2, h3, h4⟩ := boundsK_sound (P := P) h
          refine ⟨_, h1, fun {E μ w v0 vlo vhi vmx} hR hv o1 o2 o3 => ?_⟩
          obtain ⟨p, cap, rfl, hcap, hmax, hnone, hx⟩ := hv.vsl
          obtain ⟨m, hb, m1, m2, m3⟩ := h4 o1 o2 o3 true cap hcap
          refine ⟨_, fun w' => slice_run hu he hb w', VR.v_iff.2 ⟨?_, Shape.nonagg rfl rfl⟩⟩
          simp only [R, Value.cells]
          have hlen := cutL_len l (a := a) h3
          refine ⟨_, m - a, by rw [hlen], by rw [hlen]; omega, by rw [hlen]; omega, fun hn => ?_, fun y hy hpos => ?_⟩
          · cases p with
            | none => have := hnone rfl; omega
            | some p => split at hn <;> simp at hn
          · cases p with
            | none => split at hy <;> simp at hy
            | some p =>
              obtain ⟨s1, s2, s3, s4⟩ := hx p rfl (by rw [hlen] at hpos; omega)
              by_cases hma : m = a
              · rw [if_pos hma] at hy
                obtain rfl := Option.some.inj hy
                exact ⟨s1, s2, s3, fun i hi => by rw [hlen] at hi; omega⟩
              · rw [if_neg hma] at hy
                simp only [Option.map_some, Option.some.injEq] at hy
                rw [add_of s1] at hy
                subst hy
                refine ⟨rfl, s2, s3, fun i hi => ?_⟩
                rw [hlen] at hi
                obtain ⟨es, e1, e2⟩ := s4 (a + i) (by omega)
                refine ⟨es, by rw [cutL_get l h3 hi]; exact e1, ?_⟩
                rw [Nat.add_mul, ← Nat.add_assoc] at e2
                exact e2
        · cases h
      · cases h
    · rename_i n
      split at h
      · rename_i g t' l ho
        split at h
        · rename_i ht; subst ht
          obtain ⟨a, b, h1, h2, h3, h4⟩ := boundsK_sound (P := P) h
          refine ⟨_, h1, fun {E μ w v0 vlo vhi vmx} hR hv o1 o2 o3 => ?_⟩
          obtain ⟨g', t1, l', a1, rfl⟩ := hv.sl
          rw [ho] at a1
          simp only [Option.some.injEq, Obj.arr.injEq] at a1
          obtain ⟨rfl, rfl, a1⟩ := a1
          obtain rfl := eq_of_heq a1
          obtain ⟨b1, b2, b3, b4⟩ := objs_arr hR ho
          obtain ⟨m, hb, m1, m2, m3⟩ := h4 o1 o2 o3 true (μ.cap n) b1
          refine ⟨_, fun w' => slice_run hu he hb w', VR.of_cells (T := .sl t') ?_ (Shape.nonagg rfl rfl)⟩
          simp only [CR, Value.cells]
          refine ⟨g, t', l, (match μ.addr n with | some x => if m = a then x.off else x.off + a * t'.size | none => 0), m - a, ho, rfl, by omega, by omega, fun hn => by have := b3 hn; omega, fun hl x hx => ?_, ?_⟩
          · simp only [hx]; rw [if_neg (by omega)]
          · cases ha : μ.addr n with
            | none => simp
            | some x =>
              have hs := (b4 x ha).1
              by_cases hma : m = a
              · simp only [hma, if_true, Option.map_some]
                obtain ⟨xb, xo, xs⟩ := x; simp only at hs; subst hs; rfl
              · simp only [hma, if_false, Option.map_some, add_of hs]
        · cases h
      · cases h
    · rename_i n off len
      split at h
      · rename_i g t' l ho
        split at h
        · rename_i ht; subst ht
          obtain ⟨a, b, h1, h2, h3, h4⟩ := boundsK_sound (P := P) h
          refine ⟨_, h1, fun {E μ w v0 vlo vhi vmx} hR hv o1 o2 o3 => ?_⟩
          obtain ⟨g', t1, l', o, cap, a1, a2, a3, a4, a5, rfl⟩ := hv.sub
          rw [ho] at a1
          simp only [Option.some.injEq, Obj.arr.injEq] at a1
          obtain ⟨rfl, rfl, a1⟩ := a1
          obtain rfl := eq_of_heq a1
          obtain ⟨m, hb, m1, m2, m3⟩ := h4 o1 o2 o3 true cap a3
          refine ⟨_, fun w' => slice_run hu he hb w', VR.of_cells (T := .sl t') ?_ (Shape.nonagg rfl rfl)⟩
          simp only [CR, Value.cells]
          refine ⟨g, t', l, (if m = a then o else o + a * t'.size), m - a, ho, rfl, by omega, by omega, fun hn => by have := a4 hn; omega, fun hl x hx => ?_, ?_⟩
          · rw [if_neg (by omega), a5 (by omega) x hx, Nat.add_mul]; omega
          · cases ha : μ.addr n with
            | none => simp
            | some x =>
              by_cases hma : m = a
              · simp only [hma, if_true, Option.map_some]
              · simp only [hma, if_false, Option.map_some, addr_add]
        · cases h
      · cases h
    · cases h
  · rename_i m0 t hT
    obtain ⟨e, hu, he⟩ := (hC.tt _ _ hT).arrElem
    have run : ∀ {b o len a b' m : Nat} {vlo vhi vmx : Option Value} (_ : ∀ w', (Instr.sliceBounds false m0 m0 vlo vhi vmx).run P w' = .ok (a, b', m) w') (w : World),
        (Instr.sliceAt T (.pointer (some ⟨b, o, none⟩)) vlo vhi vmx).run P w = .ok (.slice (some (if m = a then ⟨b, o, none⟩ else ⟨b, o + a * t.size, none⟩)) (b' - a) (m - a)) w := fun hb w => by
      simp [Instr.sliceAt, run_underlying' hu, hb, he.sizeOf, Instr.sureAddr, addr_add]
    split at h
    · rename_i n q
      split at h
      · rename_i Tb y ho
        split at h
        · rename_i hp
          refine ⟨_, h, fun {E μ w v0 vlo vhi vmx} hR hv o1 o2 o3 => ?_⟩
          cases vlo with
          | some v => exact o1.elim
          | none =>
            cases vhi with
            | some v => exact o2.elim
            | none =>
              cases vmx with
              | some v => exact o3.elim
              | none =>
                obtain ⟨T', a', o, t', x, a1, a2, a3, rfl⟩ := hv.pb
                rw [ho] at a1
                simp only [Option.some.injEq, Obj.box.injEq] at a1
                obtain ⟨rfl, rfl⟩ := a1
                rw [a2] at hp
                simp only [Option.map_some, Option.some.injEq] at hp
                subst hp
                refine ⟨_, fun w1 => run (a := 0) (b' := m0) (m := m0) (len := 0) (fun w' => by simp [Instr.sliceBounds]) w1, VR.of_cells (T := .sl t) ?_ (Shape.nonagg rfl rfl)⟩
                simp only [CR, Value.cells]
                refine ⟨Tb, y, o, m0, t, x, ho, a2, a3, rfl, ?_⟩
                simp
        · cases h
      · cases h
    · rename_i g t0 l0
      split at h
      · rename_i m' t' l
        split at h
        · rename_i hm
          obtain ⟨rfl, rfl⟩ := hm
          split at h
          · rename_i hmax
            obtain ⟨a, b, h1, h2, h3, h4⟩ := boundsK_sound (P := P) h
            refine ⟨_, h1, fun {E μ w v0 vlo vhi vmx} hR hv o1 o2 o3 => ?_⟩
            obtain ⟨bl, o', es, rfl, s1, s2, hr, hc⟩ := hv.pr
            obtain ⟨m, hb, m1, m2, m3⟩ := h4 o1 o2 o3 false m' (Nat.le_refl _)
            refine ⟨_, fun w1 => run (len := 0) hb w1, VR.v_iff.2 ⟨?_, Shape.nonagg rfl rfl⟩⟩
            simp only [R, Value.cells] at hr ⊢
            have hlen := cutL_len l (a := a) (b := b) (by rw [hr.1]; exact h3)
            refine ⟨_, m - a, congrArg (fun z => [Value.slice _ z (m - a)]) hlen.symm, by rw [hlen]; omega, by rw [hlen]; omega, (fun hn => by cases hn), (fun y hy _ => ?_)⟩
            by_cases hma : m = a
            · rw [if_pos hma] at hy
              obtain rfl := Option.some.inj hy
              exact ⟨rfl, s1, s2, fun i hi => by rw [hlen] at hi; omega⟩
            · rw [if_neg hma] at hy
              obtain rfl := Option.some.inj hy
              refine ⟨rfl, s1, s2, fun i hi => ?_⟩
              rw [hlen] at hi
              have hil : a + i < l.length := by rw [hr.1]; omega
              refine ⟨_, by rw [cutL_get l (by rw [hr.1]; exact h3) hi]; exact hr.2.2 (a + i) hil, ?_⟩
              have := hc.sub (o := (a + i) * t'.size) (s := t'.size)
              rwa [Nat.add_mul, ← Nat.add_assoc, ← Nat.add_mul] at this
          · cases h
        · cases h
      · cases h
    · cases h
  · rename_i hT
    have hT' := hC.tt _ _ hT
    simp only [TOK] at hT'
    split at h
    · rename_i g s
      split at h
      · obtain ⟨a, b, h1, h2, h3, h4⟩ := boundsK_sound (P := P) h
        refine ⟨_, h1, fun {E μ w v0 vlo vhi vmx} hR hv o1 o2 o3 => ?_⟩
        obtain rfl := hv.str
        cases vmx with
        | some v => exact o3.elim
        | none =>
          obtain ⟨m, hb, m1, m2, m3⟩ := h4 o1 o2 (show OR E st.ob μ w none none from trivial) false s.size (Nat.le_refl _)
          exact ⟨.string (s.extract a b), fun w1 => by simp [Instr.sliceAt, Instr.slice, run_underlying' hT'.2, hb], VR.mkStr⟩
      · cases h
    · cases h
  · cases h

end
end Go.Eng

/- The engine, part 19: new objects. -/
namespace Go.Eng

section
variable {P : Program} {C : Ctx} {Rr : Type} {r : Rr} {E : Env} {ob : Store} {μ : Mu} {w w' : World}

theorem Moves.trans {E' E'' : Env} {ob' ob'' : Store} {μ' μ'' : Mu} {w'' : World} (h1 : Moves E ob μ w E' ob' μ' w') (h2 : Moves E' ob' μ' w' E'' ob'' μ'' w'') :
    Moves E ob μ w E'' ob'' μ'' w'' where
  size := Nat.le_trans h1.size h2.size
  sb := fun g b hs hb => h2.sb g b (h1.sb g b hs hb) (Nat.lt_of_lt_of_le hb h1.size)
  agree := fun b hs hb => by rw [h2.agree b (h1.sb false b hs hb) (Nat.lt_of_lt_of_le hb h1.size), h1.agree b hs hb]
theorem Moves.refl (E : Env) (ob : Store) (μ : Mu) (w : World) : Moves E ob μ w E ob μ w := ⟨Nat.le_refl _, fun _ _ h _ => h, fun _ _ _ => rfl⟩
theorem Keeps.refl (ob : Store) (μ : Mu) (n : Nat) : Keeps ob μ ob μ n := fun o h => ⟨o, h, Like.refl o, rfl, rfl⟩
theorem Like.trans {a b c : Obj} (h1 : Like a b) (h2 : Like b c) : Like a c := by
  cases a <;> cases b <;> cases c <;> simp [Like] at h1 h2 ⊢
  · exact ⟨h1.1.trans h2.1, h1.2.trans h2.2⟩
  · exact h1.trans h2
theorem Keeps.trans {ob' ob'' : Store} {μ' μ'' : Mu} {n : Nat} (h1 : Keeps ob μ ob' μ' n) (h2 : Keeps ob' μ' ob'' μ'' n) : Keeps ob μ ob'' μ'' n := fun o ho => by
  obtain ⟨o1, a1, a2, a3, a4⟩ := h1 o ho
  obtain ⟨o2, b1, b2, b3, b4⟩ := h2 o1 a1
  exact ⟨o2, b1, a2.trans b2, b3.trans a3, b4.trans a4⟩

theorem CR.named : {x : AV} → {T : Ty} → {cs : List Value} → CR E ob μ w x T cs → ∀ n ∈ x.names, ∃ o, ob.get n = some o
  | .sl n, _, _, h => by simp only [CR] at h; obtain ⟨g, t, l, ho, _⟩ := h; intro m hm; simp [AV.names] at hm; subst hm; exact ⟨_, ho⟩
  | .sub n _ _, _, _, h => by simp only [CR] at h; obtain ⟨g, t, l, o, c, ho, _⟩ := h; intro m hm; simp [AV.names] at hm; subst hm; exact ⟨_, ho⟩
  | .bs n _, _, _, h => by simp only [CR] at h; obtain ⟨_, _, _, _, _, _, ho, _⟩ := h; intro m hm; simp [AV.names] at hm; subst hm; exact ⟨_, ho⟩
  | .pe n _ _, _, _, h => by simp only [CR] at h; obtain ⟨_, _, _, _, _, _, ho, _⟩ := h; intro m hm; simp [AV.names] at hm; subst hm; exact ⟨_, ho⟩
  | .pb n _, _, _, h => by simp only [CR] at h; obtain ⟨_, _, _, _, _, ho, _⟩ := h; intro m hm; simp [AV.names] at hm; subst hm; exact ⟨_, ho⟩
  | .clo _ ns, _, _, h => by simp only [CR] at h; intro m hm; obtain ⟨_, _, _, ho, _⟩ := h.2.2 m (by simpa [AV.names] using hm); exact ⟨_, ho⟩
  | .cons x y, _, _, h => by
    simp only [CR] at h
    obtain ⟨a, b, rfl, h1, h2⟩ := h
    intro m hm
    simp only [AV.names, List.mem_append] at hm
    exact hm.elim (CR.named h1 m) (CR.named h2 m)
  | .ag l, _, _, h => by simp only [CR] at h; intro m hm; exact CR.named h.2 m (by simpa [AV.names] using hm)
  | .tup _, _, _, h => by simp only [CR] at h
  | .v .., _, _, _ | .pr .., _, _, _ | .nl _, _, _, _ | .nils, _, _, _ | .nil, _, _, _ | .dead, _, _, _ => by intro _ hm; simp [AV.names] at hm
theorem SRd.named {x : AV} {v : Value} (h : SRd E ob μ w x v) : ∀ n ∈ x.names, ∃ o, ob.get n = some o := by
  rcases h with rfl | ⟨T, h, _⟩
  · intro n hn; simp [AV.names] at hn
  · exact h.named
theorem TR.named : {l : AV} → {vs : List Value} → TR E ob μ w l vs → ∀ n ∈ l.names, ∃ o, ob.get n = some o
  | .nil, [], _ => by intro _ hn; simp [AV.names] at hn
  | .cons h t, v :: vs, hh => by
    simp only [TR] at hh
    intro m hm
    simp only [AV.names, List.mem_append] at hm
    exact hm.elim (hh.1.named m) (TR.named hh.2 m)
  | .nil, _ :: _, h => by simp [TR] at h
  | .cons .., [], h => by simp [TR] at h
  | .v .., _, h | .sl .., _, h | .sub .., _, h | .bs .., _, h | .pe .., _, h | .pb .., _, h | .pr .., _, h | .nl .., _, h
  | .nils, _, h | .clo .., _, h | .ag .., _, h | .tup .., _, h | .dead, _, h => by simp [TR] at h
theorem VR.named {x : AV} {v : Value} (h : VR E ob μ w x v) : ∀ n ∈ x.names, ∃ o, ob.get n = some o := by
  have key : SR E ob μ w x v → ∀ n ∈ x.names, ∃ o, ob.get n = some o := fun ⟨T, h, _⟩ => h.named
  cases x with
  | dead => intro n hn; simp [AV.names] at hn
  | tup l => obtain ⟨vs, _, h2⟩ := h; exact h2.named
  | _ => exact key h
theorem ObjR.named {n : Nat} {o : Obj} (h : ObjR E ob μ w n o) : ∀ m ∈ o.names, ∃ o', ob.get m = some o' := by
  cases o with
  | arr => intro m hm; simp [Obj.names] at hm
  | box T a => obtain ⟨x, cs, _, _, h, _⟩ := h; exact h.named

/-- where nothing speaks of n, an object may be put under n -/
theorem StR.put {st : St} {a : Act} (hS : StR E st μ a w) {n : Nat} {o' : Obj} {a' : Option Addr} {c' : Nat} (h : Chg st.ob μ w n a' w')
    (hsame : ((∃ m o, st.ob.get m = some o ∧ m ≠ n ∧ n ∈ o.names) ∨ ∃ x ∈ st.sl, n ∈ x.names) → Same st.ob μ n o' a' c')
    (hobj : ObjR E (st.ob.put n o') (μ.set n a' c') w' n o') (hko : Ko st.ob μ n o' a' c') :
    StR E { st with ob := st.ob.put n o' } (μ.set n a' c') a w' where
  rel := hS.rel.change h (fun hh => hsame (.inl hh)) hobj hko
  slots := hS.slots.move h.moves fun x hx _ hm => Keeps.of fun e => hsame (.inr ⟨x, hx, e ▸ hm⟩)
  defers := hS.defers

theorem StR.kill {st : St} {a : Act} (hS : StR E st μ a w) (n : Nat) : StR E (st.kill n) μ a w where
  rel := hS.rel.kill n
  slots := hS.slots.kills n
  defers := hS.defers

theorem kill_free (st : St) (n : Nat) : ¬ ((∃ m o, (st.kill n).ob.get m = some o ∧ m ≠ n ∧ n ∈ o.names) ∨ ∃ x ∈ (st.kill n).sl, n ∈ x.names) := by
  rintro (⟨m, o, h1, _, h2⟩ | ⟨x, h1, h2⟩)
  · simp only [St.kill, Store.get_kill] at h1
    cases hg : st.ob.get m with
    | none => simp [hg] at h1
    | some o0 =>
      simp [hg] at h1
      subst h1
      cases o0 with
      | arr => simp [Obj.kill, Obj.names] at h2
      | box T a => simp only [Obj.kill, Obj.names] at h2; exact (AV.kill_names n a n h2).2 rfl
  · simp only [St.kill, List.mem_map] at h1
    obtain ⟨y, _, rfl⟩ := h1
    exact (AV.kill_names n y n h2).2 rfl

theorem free_of_none {st : St} {a : Act} (hS : StR E st μ a w) {n : Nat} (hn : st.ob.get n = none) :
    ¬ ((∃ m o, st.ob.get m = some o ∧ m ≠ n ∧ n ∈ o.names) ∨ ∃ x ∈ st.sl, n ∈ x.names) := by
  rintro (⟨m, o, h1, _, h2⟩ | ⟨x, h1, h2⟩)
  · obtain ⟨o', h⟩ := (hS.rel.objs m o h1).named n h2; simp [hn] at h
  · obtain ⟨i, hi, rfl⟩ := List.mem_iff_getElem.1 h1
    obtain ⟨o', h⟩ := (hS.slots.2 i hi).named n h2; simp [hn] at h

theorem Chg.kill {n : Nat} {a' : Option Addr} (h : Chg ob μ w n a' w') : Chg (ob.kill n) μ w n a' w' where
  size := h.size
  io := h.io
  agree := fun b hb hp => h.agree b hb fun ⟨o, x, h1, h2, h3⟩ => hp ⟨o.kill n, x, by rw [Store.get_kill, h1]; rfl, h2, h3⟩
  addr := fun x hx => ⟨(h.addr x hx).1, fun hb => let ⟨o, y, h1, h2, h3⟩ := (h.addr x hx).2 hb; ⟨o.kill n, y, by rw [Store.get_kill, h1]; rfl, h2, h3⟩⟩

theorem nm_ge (d j : Nat) : 64 ≤ nm d j := by unfold nm; omega
/-- a name is taken for a new object -/
theorem StR.new {st : St} {a : Act} (hS : StR E st μ a w) (hio : Io w w') {n : Nat} (h64 : 64 ≤ n) {o' : Obj} {a' : Option Addr} {c' : Nat} (hsz : w.heap.size ≤ w'.heap.size)
    (hag : ∀ b, b < w.heap.size → w'.heap[b]? = w.heap[b]?) (had : ∀ x, a' = some x → w.heap.size ≤ x.block ∧ x.block < w'.heap.size)
    (hobj : Moves E st.ob μ w E (st.new n o').ob (μ.set n a' c') w' → (∀ m, m ≠ n → Keeps st.ob μ (st.new n o').ob (μ.set n a' c') m) → ObjR E (st.new n o').ob (μ.set n a' c') w' n o') :
    StR E (st.new n o') (μ.set n a' c') a w' ∧ Moves E st.ob μ w E (st.new n o').ob (μ.set n a' c') w' ∧
      ∀ m, m ≠ n → Keeps st.ob μ (st.new n o').ob (μ.set n a' c') m := by
  have hc : Chg st.ob μ w n a' w' := ⟨hsz, hio, fun b hb _ => hag b hb, fun x hx => ⟨(had x hx).2, fun hb => absurd hb (by have := (had x hx).1; omega)⟩⟩
  cases hg : st.ob.get n with
  | none =>
    have e : st.new n o' = { st with ob := st.ob.put n o' } := by unfold St.new; rw [hg]
    rw [e] at hobj ⊢
    have hm : Moves E st.ob μ w E (st.ob.put n o') (μ.set n a' c') w' := hc.moves
    have hk : ∀ m, m ≠ n → Keeps st.ob μ (st.ob.put n o') (μ.set n a' c') m := fun m h => Keeps.ne h
    exact ⟨hS.put hc (fun h => (free_of_none hS hg h).elim) (hobj hm hk) (.inl h64), hm, hk⟩
  | some o =>
    have e : st.new n o' = { st.kill n with ob := (st.kill n).ob.put n o' } := by unfold St.new; rw [hg]
    rw [e] at hobj ⊢
    have hm : Moves E st.ob μ w E ((st.kill n).ob.put n o') (μ.set n a' c') w' := (Sub.kill n).moves.trans hc.kill.moves
    have hk : ∀ m, m ≠ n → Keeps st.ob μ ((st.kill n).ob.put n o') (μ.set n a' c') m := fun m h => (Keeps.kill n m).trans (Keeps.ne h)
    exact ⟨(hS.kill n).put hc.kill (fun h => (kill_free st n h).elim) (hobj hm hk) (.inl h64), hm, hk⟩

theorem St.new_get (st : St) (n : Nat) (o : Obj) : (st.new n o).ob.get n = some o := by
  unfold St.new
  split
  · exact Store.get_put_self _ _ _
  · exact Store.get_put_self _ _ _

/-- a new box -/
theorem new_box {st : St} {a : Act} (hS : StR E st μ a w) {n : Nat} (h64 : 64 ≤ n) {T : Ty} {x : AV} {cs : Array Value} (e : TypeId) (hc : CR E st.ob μ w x T cs.toList) (hn : n ∉ x.names) :
    ∃ μ', StR E (st.new n (.box T x)) μ' a (World.pushed w cs e) ∧ VR E (st.new n (.box T x)).ob μ' (World.pushed w cs e) (.pb n []) (.pointer (some ⟨w.heap.size, 0, none⟩)) := by
  have := hS.new ⟨rfl, rfl, rfl⟩ h64 (n := n) (o' := .box T x) (w' := World.pushed w cs e) (a' := some ⟨w.heap.size, 0, none⟩) (c' := 0) (by rw [pushed_size]; omega)
    (fun b hb => pushed_old w cs e b hb) (fun y hy => by obtain rfl := Option.some.inj hy; rw [pushed_size]; simp) (fun hm hk => by
      refine ⟨_, cs.toList, Mu.set_addr _ _ _ _, rfl, hc.move hm (fun m hmn => hk m (fun e => hn (e ▸ hmn))), ?_, ?_⟩
      · exact pushed_at w cs e 0 cs.toList (fun j hj => by simp)
      · exact pushed_own w cs e T.size (by have := hc.len; simp at this; omega))
  refine ⟨_, this.1, ?_⟩
  exact VR.mkPb (p := []) (o := 0) (t' := T) (St.new_get _ _ _) (by rw [pathOff.eq_1]) (Mu.set_addr _ _ _ _)

/-- a new array -/
theorem new_arr {st : St} {a : Act} (hS : StR E st μ a w) {n : Nat} (h64 : 64 ≤ n) {g : Bool} {t : Ty} {l : List t.D} {cs : Array Value} (e : TypeId) {cap : Nat} (hr : Row w (Sb E st.ob μ g) t l (cs.toList.take (l.length * t.size)))
    (hl : l.length ≤ cap) (hm : l.length ≤ maxI) (hcap : cap * t.size ≤ cs.size) :
    ∃ μ', StR E (st.new n (.arr g t l)) μ' a (World.pushed w cs e) ∧ VR E (st.new n (.arr g t l)).ob μ' (World.pushed w cs e) (.sl n) (.slice (some ⟨w.heap.size, 0, none⟩) l.length cap) := by
  have := hS.new ⟨rfl, rfl, rfl⟩ h64 (n := n) (o' := .arr g t l) (w' := World.pushed w cs e) (a' := some ⟨w.heap.size, 0, none⟩) (c' := cap) (by rw [pushed_size]; omega)
    (fun b hb => pushed_old w cs e b hb) (fun y hy => by obtain rfl := Option.some.inj hy; rw [pushed_size]; simp) (fun hmv hk => by
      simp only [ObjR, Mu.set_addr, Mu.set_cap]
      refine ⟨hl, hm, (fun h => by cases h), (fun y hy => ?_)⟩
      obtain rfl := Option.some.inj hy
      refine ⟨rfl, pushed_own w cs e _ hcap, fun i hi => ?_⟩
      have hr' := hr.2 i hi
      refine ⟨_, hmv.r hr', ?_⟩
      have hmul := mul_part (s := t.size) hi
      rw [Nat.zero_add]
      refine pushed_at w cs e _ _ (fun j hj => ?_)
      have hlen := hr'.len
      rw [hlen] at hj
      simp only [List.getElem_take, List.getElem_drop, Array.getElem_toList]
      rw [Array.getElem?_eq_getElem])
  refine ⟨_, this.1, ⟨.sl t, ?_, by simp [Ty.isAgg], fun _ => rfl⟩⟩
  simp only [CR, Value.cells, Mu.set_addr, Mu.set_cap]
  exact ⟨g, t, l, St.new_get _ _ _, rfl, rfl⟩

/-- an empty array without memory -/
theorem new_none {st : St} {a : Act} (hS : StR E st μ a w) {n : Nat} (h64 : 64 ≤ n) {t : Ty} (g : Bool) :
    ∃ μ', StR E (st.new n (.arr g t [])) μ' a w ∧ VR E (st.new n (.arr g t [])).ob μ' w (.sl n) (.slice none 0 0) := by
  have := hS.new (Io.refl _) h64 (n := n) (o' := .arr g t []) (w' := w) (a' := none) (c' := 0) (Nat.le_refl _) (fun _ _ => rfl) (fun y hy => by cases hy) (fun hmv hk => by
      simp only [ObjR, Mu.set_addr, Mu.set_cap]
      exact ⟨Nat.zero_le _, Nat.zero_le _, fun _ => trivial, fun y hy => by cases hy⟩)
  refine ⟨_, this.1, ⟨.sl t, ?_, by simp [Ty.isAgg], fun _ => rfl⟩⟩
  simp only [CR, Value.cells, Mu.set_addr, Mu.set_cap]
  exact ⟨g, t, [], St.new_get _ _ _, rfl, rfl⟩

end
end Go.Eng

/- The engine, part 20: stores. -/
namespace Go.Eng

section
variable {P : Program} {C : Ctx} {Rr : Type} {r : Rr} {E : Env} {ob : Store} {μ : Mu} {w w' : World}

theorem explode_CR {g : Bool} : (t : Ty) → t.spine = true → (d : t.D) → (cs : List Value) → R w (Sb E ob μ g) t d cs → CR E ob μ w (explode g t d) t cs ∧ (explode g t d).isL t = true
  | .unit, _, d, cs, h => by simp only [R] at h; subst h; simp [explode, CR, AV.isL]
  | .pair a b, hs, d, cs, h => by
    simp only [R] at h
    simp only [Ty.spine] at hs
    have := explode_CR b hs d.2 _ h.2
    simp only [explode, CR, AV.isL]
    exact ⟨⟨a, b, rfl, ⟨rfl, h.1⟩, this.1⟩, this.2⟩
  | .int _, hs, _, _, _ | .bool, hs, _, _, _ | .str, hs, _, _, _ | .sl _, hs, _, _, _ | .arr .., hs, _, _, _ | .opq _, hs, _, _, _ => by simp [Ty.spine] at hs

theorem upd_upd {cs es : List Value} {o2 s1 o1 e : Nat} (he : es.length = e) (h1 : o1 + e ≤ s1) (h2 : o2 + s1 ≤ cs.length) :
    cs.take o2 ++ (((cs.drop o2).take s1).take o1 ++ es ++ ((cs.drop o2).take s1).drop (o1 + e)) ++ cs.drop (o2 + s1) = cs.take (o2 + o1) ++ es ++ cs.drop (o2 + o1 + e) := by
  have hm : ((cs.drop o2).take s1).length = s1 := by simp; omega
  have hin := upd_len (cs := (cs.drop o2).take s1) (p := o1) he (by rw [hm]; omega)
  rw [hm] at hin
  apply List.ext_getElem?
  intro j
  rw [upd_get hin (by omega), upd_get he (show o2 + o1 + e ≤ cs.length by omega), upd_get he (show o1 + e ≤ ((cs.drop o2).take s1).length by rw [hm]; omega)]
  simp only [List.getElem?_take, List.getElem?_drop]
  by_cases j1 : j < o2
  · rw [if_pos j1, if_pos (show j < o2 + o1 by omega)]
  · rw [if_neg j1]
    by_cases j2 : j < o2 + s1
    · rw [if_pos j2]
      by_cases j3 : j - o2 < o1
      · rw [if_pos j3, if_pos (show j - o2 < s1 by omega), if_pos (show j < o2 + o1 by omega)]; congr 1; omega
      · rw [if_neg j3, if_neg (show ¬ j < o2 + o1 by omega)]
        by_cases j4 : j - o2 < o1 + e
        · rw [if_pos j4, if_pos (show j < o2 + o1 + e by omega)]; congr 1; omega
        · rw [if_neg j4, if_neg (show ¬ j < o2 + o1 + e by omega), if_pos (show j - o2 < s1 by omega)]; congr 1; omega
    · rw [if_neg j2, if_neg (show ¬ j < o2 + o1 by omega), if_neg (show ¬ j < o2 + o1 + e by omega)]

theorem CR.upd_v {g g' : Bool} {t t' : Ty} {d : t.D} {d' : t'.D} {q : Path} {k : AV → Option Rr} (h : (sets t d q t' d' fun d'' => k (.v (g && g') t d'')) = some r) :
    ∃ x', k x' = some r ∧ ∀ {E : Env} {ob : Store} {μ : Mu} {w : World} {T : Ty} {cs es : List Value} {o : Nat} {ta : Ty}, CR E ob μ w (.v g t d) T cs → pathOff T q = some (o, ta) → CR E ob μ w (.v g' t' d') t' es →
      t' = ta ∧ o + ta.size ≤ T.size ∧ CR E ob μ w x' T (cs.take o ++ es ++ cs.drop (o + ta.size)) := by
  obtain ⟨d'', o, h1, h2, h3, h4⟩ := sets_sound h
  refine ⟨_, h1, fun {E ob μ w T cs es o' ta} hc hp ha => ?_⟩
  simp only [CR] at hc ha
  obtain ⟨rfl, hc⟩ := hc
  rw [h2] at hp
  simp only [Option.some.injEq, Prod.mk.injEq] at hp
  obtain ⟨rfl, rfl⟩ := hp
  exact ⟨rfl, h3, rfl, h4 (hc.weaken fun b hb => hb.and) (ha.2.weaken fun b hb => hb.and')⟩

theorem isV_fits {ob : Store} {g : Bool} {t t' : Ty} {d : t.D} (h : (AV.v g t d).fits ob t' = true) : t = t' := by simpa [AV.fits] using h

theorem setB_sound {ob : Store} {T : Ty} {x : AV} {q : Path} {a : AV} {t : Ty} {k : AV → Option Rr} (hf : a.fits ob t = true) (h : setB ob T x q a k = some r) :
    ∃ x', k x' = some r ∧ ∀ {E : Env} {μ : Mu} {w : World} {cs es : List Value} {o : Nat} {ta : Ty}, CR E ob μ w x T cs → pathOff T q = some (o, ta) → CR E ob μ w a t es →
      t.size = ta.size ∧ o + ta.size ≤ T.size ∧ CR E ob μ w x' T (cs.take o ++ es ++ cs.drop (o + ta.size)) := by
  unfold setB at h
  split at h
  · split at h
    · rename_i hfT
      refine ⟨a, h, fun {E μ w cs es o ta} hc hp ha => ?_⟩
      rw [pathOff.eq_1] at hp
      simp only [Option.some.injEq, Prod.mk.injEq] at hp
      obtain ⟨rfl, rfl⟩ := hp
      have e1 := (fits_of hfT ha).1
      have hl := hc.len
      refine ⟨e1.symm, by omega, ?_⟩
      rw [List.drop_eq_nil_of_le (by omega)]
      simpa using ha.retype hfT
    · cases h
  · rename_i i q
    split at h
    · rename_i g t0 d
      split at h
      · rename_i g' t' d'
        obtain ⟨x', h1, h2⟩ := CR.upd_v h
        refine ⟨x', h1, fun {E μ w cs es o ta} hc hp ha => ?_⟩
        have := isV_fits hf; subst this
        obtain ⟨e1, e2, e3⟩ := h2 hc hp ha
        exact ⟨by rw [e1], e2, e3⟩
      · split at h
        · rename_i tf hT
          split at h
          · rename_i hc0
            refine ⟨_, h, fun {E μ w cs es o ta} hc hp ha => ?_⟩
            simp only [CR] at hc
            obtain ⟨rfl, hc⟩ := hc
            have hft := fldTy_of hp
            rw [hT] at hft
            obtain rfl := Option.some.inj hft
            have e1 := (fits_of hc0.1 ha).1
            obtain ⟨x1, x2⟩ := explode_CR t0 hc0.2 d cs hc
            obtain ⟨s1, s2⟩ := setNth_sound x2 x1 hp (ha.retype hc0.1)
            refine ⟨e1.symm, s1, ?_⟩
            simp only [CR]
            cases t0 with
            | pair a b => exact ⟨⟨a, b, rfl⟩, s2⟩
            | _ => simp [Ty.fldTy] at hT
          · cases h
        · cases h
    · rename_i l
      cases hT : T.fldTy i with
      | none => cases q <;> simp [hT] at h
      | some tf =>
        cases q with
        | nil =>
          simp only [hT] at h
          split at h
          · rename_i hc0
            refine ⟨_, h, fun {E μ w cs es o ta} hc hp ha => ?_⟩
            simp only [CR] at hc
            have hft := fldTy_of hp
            rw [hT] at hft
            obtain rfl := Option.some.inj hft
            have e1 := (fits_of hc0.1 ha).1
            obtain ⟨s1, s2⟩ := setNth_sound hc0.2 hc.2 hp (ha.retype hc0.1)
            exact ⟨e1.symm, s1, by simp only [CR]; exact ⟨hc.1, s2⟩⟩
          · cases h
        | cons s q =>
          simp only [hT] at h
          split at h
          · rename_i g t1 d g' t' d' hn
            split at h
            · rename_i hl
              obtain ⟨d'', o1, h1, h2, h3, h4⟩ := sets_sound h
              refine ⟨_, h1, fun {E μ w cs es o' ta} hc hp ha => ?_⟩
              have := isV_fits hf; subst this
              simp only [CR] at hc ha
              rw [show Step.fld i :: s :: q = [.fld i] ++ s :: q from rfl, pathOff_app] at hp
              cases hf1 : pathOff T [.fld i] with
              | none => simp [hf1] at hp
              | some z =>
                obtain ⟨o2, tf⟩ := z
                obtain ⟨o3, p1, p2, p3⟩ := nth_sound hc.2 (fldTy_of hf1)
                rw [hf1] at p1
                simp only [Option.some.injEq, Prod.mk.injEq] at p1
                obtain ⟨rfl, _⟩ := p1
                rw [hn] at p3
                simp only [CR] at p3
                obtain ⟨rfl, p3⟩ := p3
                simp only [hf1, Option.bind_some, h2, Option.map_some, Option.some.injEq, Prod.mk.injEq] at hp
                obtain ⟨rfl, rfl⟩ := hp
                have hel := ha.2.len
                have hcl := hc.2.len
                have hnew := h4 (p3.weaken fun b hb => hb.and) (ha.2.weaken fun b hb => hb.and')
                obtain ⟨s1, s2⟩ := setNth_sound (a := .v (g && g') t1 d'') hl hc.2 hf1 (by simp only [CR]; exact ⟨trivial, hnew⟩)
                refine ⟨rfl, by omega, ?_⟩
                simp only [CR]
                refine ⟨hc.1, ?_⟩
                have e := upd_upd (cs := cs) (es := es) (o2 := o2) (o1 := o1) (s1 := t1.size) hel (by omega) (by omega)
                rw [← e]
                exact s2
            · cases h
          · cases h
    · cases h
  · split at h
    · rename_i g t0 d g' t' d'
      obtain ⟨x', h1, h2⟩ := CR.upd_v h
      refine ⟨x', h1, fun {E μ w cs es o ta} hc hp ha => ?_⟩
      have := isV_fits hf; subst this
      obtain ⟨e1, e2, e3⟩ := h2 hc hp ha
      exact ⟨by rw [e1], e2, e3⟩
    · cases h

theorem CellsAt.upd {b off p s : Nat} {cs es : List Value} (hc : CellsAt w b off cs) (he : es.length = s) (hp : p + s ≤ cs.length)
    (h1 : CellsAt w' b (off + p) es) (h2 : ∀ q fs, q + fs.length ≤ p ∨ p + es.length ≤ q → CellsAt w b (off + q) fs → CellsAt w' b (off + q) fs) :
    CellsAt w' b off (cs.take p ++ es ++ cs.drop (p + s)) := by
  intro j hj
  rw [upd_len he hp] at hj
  have hg : (cs.take p ++ es ++ cs.drop (p + s))[j]? = some ((cs.take p ++ es ++ cs.drop (p + s))[j]'(by rw [upd_len he hp]; exact hj)) := List.getElem?_eq_getElem _
  rw [← hg, upd_get he hp]
  have one : (j < p ∨ p + s ≤ j) → w'.cell? ⟨b, off + j, none⟩ = cs[j]? := fun hh => by
    have := h2 j [cs[j]] (by simp [he]; omega) (fun i hi => by
      simp at hi; subst hi; simpa using hc j hj) 0 (by simp)
    rw [List.getElem?_eq_getElem hj]
    simpa using this
  by_cases j1 : j < p
  · rw [if_pos j1]; exact one (.inl j1)
  · rw [if_neg j1]
    by_cases j2 : j < p + s
    · rw [if_pos j2, List.getElem?_eq_getElem (by omega)]
      have := h1 (j - p) (by omega)
      rwa [show off + p + (j - p) = off + j by omega] at this
    · rw [if_neg j2]; exact one (.inr (by omega))

theorem set_row {S : Nat → Prop} {t : Ty} {l : List t.D} {cs es : List Value} {i o s : Nat} {d : t.D} (h : Row w S t l cs) (hi : i < l.length) (he : es.length = s) (ho : o + s ≤ t.size)
    (hd : R w S t d (((cs.drop (i * t.size)).take t.size).take o ++ es ++ ((cs.drop (i * t.size)).take t.size).drop (o + s))) :
    Row w S t (l.set i d) (cs.take (i * t.size + o) ++ es ++ cs.drop (i * t.size + o + s)) := by
  have hm := mul_part (s := t.size) hi
  have hl := h.1
  refine ⟨by rw [upd_len he (by omega), hl]; simp, fun j hj => ?_⟩
  simp only [List.length_set] at hj
  by_cases hji : j = i
  · subst hji
    rw [List.getElem_set_self, upd_around he (by omega) (by omega) (by omega) (by omega), Nat.add_sub_cancel_left]
    exact hd
  · have hjm := mul_part (s := t.size) hj
    rw [List.getElem_set_ne (Ne.symm hji), upd_apart he (by omega) (by
      rcases Nat.lt_or_gt_of_ne hji with hlt | hgt
      · have := mul_part (s := t.size) hlt; omega
      · have := mul_part (s := t.size) hgt; omega)]
    exact h.2 j hj

theorem Same.like {n : Nat} {o o' : Obj} (h : ob.get n = some o) (hl : Like o o') : Same ob μ n o' (μ.addr n) (μ.cap n) := fun o1 h1 => by
  rw [h] at h1; obtain rfl := Option.some.inj h1; exact ⟨hl, rfl, rfl⟩

theorem setCells_io (b : Nat) : ∀ (p : Nat) (vs : List Value) (w : World), Io w (w.setCells b p vs)
  | _, [], w => Io.refl w
  | p, v :: r, w => by rw [World.setCells]; exact Io.trans ⟨rfl, rfl, rfl⟩ (setCells_io b _ r _)

/-- cells of one object are written -/
theorem store_chg {n b : Nat} {o : Obj} {x : Addr} (hR : Rel E ob μ w) (ho : ob.get n = some o) (hx : μ.addr n = some x) (p : Nat) (cs : List Value) (hb : b = x.block) :
    Chg ob μ w n (μ.addr n) (w.setCells b p cs) where
  size := by rw [setCells_size]; exact Nat.le_refl _
  io := setCells_io b p cs w
  agree := fun c _ hp => setCells_other b cs p w c fun e => hp ⟨o, x, ho, hx, by rw [← hb, e]⟩
  addr := fun y hy => by
    have := (hR.own n o y ho hy).1
    exact ⟨by rw [setCells_size]; exact this, fun _ => ⟨o, y, ho, hy, rfl⟩⟩

theorem storeInto_sound (hC : CtxT P C) {st : St} {T : TypeId} {p a : AV} {k : St → Option Rr} (h : storeInto C st T p a k = some r) :
    ∃ st', k st' = some r ∧ ∀ {E : Env} {μ : Mu} {w : World} {act : Act} {v0 v1 : Value}, StR E st μ act w → VR E st.ob μ w p v0 → VR E st.ob μ w a v1 →
      ∃ w', (Instr.storeAt T v0 v1).run P w = .ok () w' ∧ StR E st' μ act w' := by
  unfold storeInto at h
  split at h
  · rename_i n i q
    split at h
    · rename_i g t l g' t' d' ho
      split at h
      · rename_i hT
        obtain ⟨d'', o, h1, h2, h3, h4⟩ := sets_sound h
        refine ⟨_, h1, fun {E μ w act v0 v1} hS hp ha => ?_⟩
        obtain ⟨g1, t1, l1, o1, t2, x, a1, a2, a3, a4, rfl⟩ := hp.pe
        rw [ho] at a1
        simp only [Option.some.injEq, Obj.arr.injEq] at a1
        obtain ⟨rfl, rfl, a1⟩ := a1
        obtain rfl := eq_of_heq a1
        rw [h2] at a3
        simp only [Option.some.injEq, Prod.mk.injEq] at a3
        obtain ⟨rfl, rfl⟩ := a3
        obtain ⟨b1, b2, b3, b4⟩ := objs_arr hS.rel ho
        obtain ⟨s1, s2, s3⟩ := b4 x a4
        obtain ⟨cs, r1, r2⟩ := RowAt.row rfl s3
        obtain ⟨ra, sa⟩ := VR.v_iff.1 ha
        have hel := ra.len
        have hm := mul_part (s := t.size) a2
        have hcap := Nat.mul_le_mul_right t.size b1
        have hTok := hC.tt _ _ hT
        have hst := hTok.storeVar s2 (p := i * t.size + o) (by rw [hel]) ra.one (by omega)
        obtain ⟨_, w2, w3, w4⟩ := s2.store (p := i * t.size + o) ra.one (by rw [hel]; omega)
        refine ⟨_, by simpa [Instr.storeAt, Instr.sureAddr, Nat.add_assoc] using hst, ?_⟩
        have hchg := store_chg hS.rel ho a4 (x.off + (i * t.size + o)) v1.cells.toList rfl
        have hmv : Moves E st.ob μ w E (st.ob.put n (.arr (g && g') t (l.set i d''))) (μ.set n (μ.addr n) (μ.cap n)) _ := hchg.moves
        have := hS.put hchg (o' := .arr (g && g') t (l.set i d'')) (c' := μ.cap n) (fun _ => Same.like ho (by simp [Like])) (by
          simp only [ObjR, Mu.set_addr, Mu.set_cap, List.length_set]
          refine ⟨b1, b2, b3, fun y hy => ?_⟩
          rw [a4] at hy
          obtain rfl := Option.some.inj hy
          refine ⟨s1, w2, ?_⟩
          have hrow : Row w (Sb E st.ob μ (g && g')) t (l.set i d'') (cs.take (i * t.size + o) ++ v1.cells.toList ++ cs.drop (i * t.size + o + t'.size)) := by
            refine set_row (r1.weaken fun b hb => hb.and) a2 hel h3 (h4 ?_ (ra.weaken fun b hb => hb.and'))
            have := (r1.weaken (S' := Sb E st.ob μ (g && g')) fun b hb => hb.and).2 i a2
            simpa [List.getD, List.getElem?_eq_getElem a2] using this
          have hrow' : Row _ (Sb E _ _ (g && g')) t (l.set i d'') _ := hrow.stay (fun b hb hz => hmv.agree b hb.weak hz) (fun b hb hz => hmv.sb _ b hb hz) hmv.size
          have hcl := r1.1
          exact fun j hj => (hrow'.at (r2.upd hel (by omega) w3 w4)) j (by simpa using hj))
        rw [Mu.set_same] at this
        exact this (.inr (.inr ⟨_, ho, Same.like ho (by simp [Like])⟩))
      · cases h
    · cases h
  · rename_i n q
    split at h
    · rename_i Tb y t ho hT
      split at h
      · rename_i hf
        obtain ⟨x', h1, h2⟩ := setB_sound hf h
        refine ⟨_, h1, fun {E μ w act v0 v1} hS hp ha => ?_⟩
        obtain ⟨T', a', o, t', x, a1, a2, a3, rfl⟩ := hp.pb
        rw [ho] at a1
        simp only [Option.some.injEq, Obj.box.injEq] at a1
        obtain ⟨rfl, rfl⟩ := a1
        obtain ⟨x1, cs, b1, b2, b3, b4, b5⟩ := hS.rel.objs n _ ho
        rw [a3] at b1
        obtain rfl := Option.some.inj b1
        obtain ⟨c1, c2⟩ := fits_VR hf ha
        obtain ⟨d1, d2, d3⟩ := h2 b3 a2 c1
        have hel := c1.len
        have hone := (fits_of hf c1).2.2
        have hTok := hC.tt _ _ hT
        have hst := hTok.storeVar b5 (p := o) (by rw [hel]) hone (by omega)
        obtain ⟨_, w2, w3, w4⟩ := b5.store (p := o) hone (by rw [hel]; omega)
        refine ⟨_, by simpa [Instr.storeAt, Instr.sureAddr] using hst, ?_⟩
        have hchg := store_chg hS.rel ho a3 (x.off + o) v1.cells.toList rfl
        have hmv : Moves E st.ob μ w E (st.ob.put n (.box Tb x')) (μ.set n (μ.addr n) (μ.cap n)) _ := hchg.moves
        have hsame : Same st.ob μ n (.box Tb x') (μ.addr n) (μ.cap n) := Same.like ho (by simp [Like])
        have hcl := b3.len
        have := hS.put hchg (o' := .box Tb x') (c' := μ.cap n) (fun _ => hsame) (by
          refine ⟨x, cs.take o ++ v1.cells.toList ++ cs.drop (o + t'.size), by rw [Mu.set_addr, a3], b2, d3.move hmv (fun m _ => Keeps.of fun _ => hsame), ?_, w2⟩
          exact b4.upd (by rw [hel, d1]) (by omega) w3 w4)
        rw [Mu.set_same] at this
        exact this (.inr (.inr ⟨_, ho, Same.like ho (by simp [Like])⟩))
      · cases h
    · cases h
  · cases h

end
end Go.Eng

/- The engine, part 21: arrays become plain data. -/
namespace Go.Eng

section
variable {P : Program} {C : Ctx} {Rr : Type} {r : Rr} {E : Env} {ob : Store} {μ : Mu} {w w' : World}

def frzOb (ob : Store) (n : Nat) (g : Bool) (t : Ty) (l : List t.D) : Store := (ob.del n).map fun (m, o) => (m, o.frz n g t l)
theorem frzOb_get {n m : Nat} {g : Bool} {t : Ty} {l : List t.D} : (frzOb ob n g t l).get m = if m = n then none else (ob.get m).map (Obj.frz n g t l) := by
  unfold frzOb
  rw [Store.get_map, Store.get_del]
  split <;> simp
theorem frz_sub {n : Nat} {g : Bool} {t : Ty} {l : List t.D} : Sub ob (frzOb ob n g t l) := ⟨fun m o' h => by
  rw [frzOb_get] at h
  split at h
  · cases h
  · cases hg : ob.get m with
    | none => simp [hg] at h
    | some o => simp [hg] at h; subst h; exact ⟨o, rfl, by cases o <;> simp [Like, Obj.frz]⟩⟩
theorem frz_keeps {n m : Nat} {g : Bool} {t : Ty} {l : List t.D} (h : m ≠ n) : Keeps ob μ (frzOb ob n g t l) μ m := fun o ho =>
  ⟨o.frz n g t l, by rw [frzOb_get, if_neg h, ho]; rfl, by cases o <;> simp [Like, Obj.frz], rfl, rfl⟩

/-- what the array's place is good for, once it is nobody's own -/
structure Freed (E : Env) (ob' : Store) (μ : Mu) (w : World) (n : Nat) (g : Bool) (t : Ty) (l : List t.D) : Prop where
  len : l.length ≤ maxI
  cap : l.length ≤ μ.cap n
  nn : μ.addr n = none → μ.cap n = 0
  sm : ∀ x, μ.addr n = some x → x.spot = none ∧ Sb E ob' μ g x.block ∧ x.block < w.heap.size ∧ RowAt w (Sb E ob' μ g) t l x.block x.off

theorem freed {n : Nat} {g : Bool} {t : Ty} {l : List t.D} (hR : Rel E ob μ w) (ho : ob.get n = some (.arr g t l)) (hn : ¬ n < 64) : Freed E (frzOb ob n g t l) μ w n g t l := by
  obtain ⟨b1, b2, b3, b4⟩ := objs_arr hR ho
  refine ⟨b2, b1, b3, fun x hx => ?_⟩
  obtain ⟨s1, _, s3⟩ := b4 x hx
  obtain ⟨o1, o2⟩ := hR.own n _ x ho hx
  have hnx : ¬ x.block < E.w0.heap.size := fun h => hn (hR.lent _ _ (o2 h)).2
  refine ⟨s1, ⟨fun ⟨m, o', y, h1, h2, h3⟩ => ?_, fun ⟨m, h⟩ => hnx (hR.lent _ _ h).1, fun h => absurd h hnx⟩, o1, fun i hi => ?_⟩
  · rw [frzOb_get] at h1
    split at h1
    · cases h1
    · rename_i hm
      cases hg : ob.get m with
      | none => simp [hg] at h1
      | some o0 => exact hm (hR.inj m n o0 _ y x hg ho h2 hx h3)
  · obtain ⟨es, e1, e2⟩ := s3 i hi
    exact ⟨es, frz_sub.moves.r e1, e2⟩

theorem Freed.all {n : Nat} {g : Bool} {t : Ty} {l : List t.D} {ob' : Store} (h : Freed E ob' μ w n g t l) : R w (Sb E ob' μ g) (.sl t) l [.slice (μ.addr n) l.length (μ.cap n)] := by
  simp only [R]
  exact ⟨_, _, rfl, h.cap, h.len, h.nn, fun x hx _ => h.sm x hx⟩
theorem Freed.part {n : Nat} {g : Bool} {t : Ty} {l : List t.D} {ob' : Store} (h : Freed E ob' μ w n g t l) {off len o cap : Nat} (h1 : off + len ≤ l.length) (h2 : len ≤ cap) (h3 : μ.addr n = none → cap = 0)
    (h4 : 0 < len → ∀ x, μ.addr n = some x → o = x.off + off * t.size) : R w (Sb E ob' μ g) (.sl t) ((l.drop off).take len) [.slice ((μ.addr n).map fun x => ⟨x.block, o, none⟩) len cap] := by
  have hlen : ((l.drop off).take len).length = len := by simp; omega
  simp only [R]
  have := h.len
  refine ⟨_, cap, by rw [hlen], by rw [hlen]; exact h2, by rw [hlen]; omega, fun hh => h3 (by simpa using hh), fun y hy _ => ?_⟩
  cases ha : μ.addr n with
  | none => simp [ha] at hy
  | some x =>
    simp only [ha, Option.map_some, Option.some.injEq] at hy
    subst hy
    obtain ⟨s1, s2, s3, s4⟩ := h.sm x ha
    refine ⟨rfl, s2, s3, fun i hi => ?_⟩
    rw [hlen] at hi
    obtain ⟨es, e1, e2⟩ := s4 (off + i) (by omega)
    refine ⟨es, by simpa [List.getElem_take, List.getElem_drop] using e1, ?_⟩
    rw [h4 (by omega) x ha, Nat.add_assoc, ← Nat.add_mul]
    exact e2

theorem CR.frz {n : Nat} {g : Bool} {t : Ty} {l : List t.D} (ho : ob.get n = some (.arr g t l)) (hF : Freed E (frzOb ob n g t l) μ w n g t l) :
    {x : AV} → {T : Ty} → {cs : List Value} → CR E ob μ w x T cs → CR E (frzOb ob n g t l) μ w (x.frz n g t l) T cs := by
  have mv : Moves E ob μ w E (frzOb ob n g t l) μ w := frz_sub.moves
  have killed : ∀ {x : AV} {T : Ty} {cs : List Value}, CR E ob μ w x T cs → CR E (frzOb ob n g t l) μ w (x.kill n) T cs := fun {x T cs} h =>
    (h.kill n).move mv fun m hm => frz_keeps (AV.kill_names n x m hm).2
  intro x
  induction x with
  | sl m =>
    intro T cs h
    by_cases hm : m = n
    · subst hm
      simp only [AV.frz, if_true]
      simp only [CR] at h
      obtain ⟨g', t', l', h1, rfl, rfl⟩ := h
      rw [ho] at h1
      simp only [Option.some.injEq, Obj.arr.injEq] at h1
      obtain ⟨rfl, rfl, h1⟩ := h1
      obtain rfl := eq_of_heq h1
      simp only [CR]
      exact ⟨trivial, hF.all⟩
    · simp only [AV.frz, if_neg hm]
      exact h.move mv fun k hk => frz_keeps (by simp [AV.names] at hk; rw [hk]; exact hm)
  | sub m off len =>
    intro T cs h
    by_cases hm : m = n
    · subst hm
      simp only [AV.frz, if_true]
      simp only [CR] at h
      obtain ⟨g', t', l', o, cap, h1, rfl, h2, h3, h4, h5, rfl⟩ := h
      rw [ho] at h1
      simp only [Option.some.injEq, Obj.arr.injEq] at h1
      obtain ⟨rfl, rfl, h1⟩ := h1
      obtain rfl := eq_of_heq h1
      simp only [CR]
      exact ⟨trivial, hF.part h2 h3 h4 h5⟩
    · simp only [AV.frz, if_neg hm]
      exact h.move mv fun k hk => frz_keeps (by simp [AV.names] at hk; rw [hk]; exact hm)
  | cons a b iha ihb =>
    intro T cs h
    simp only [AV.frz, CR] at h ⊢
    obtain ⟨a', b', rfl, h1, h2⟩ := h
    exact ⟨a', b', rfl, iha h1, ihb h2⟩
  | ag a ih =>
    intro T cs h
    simp only [AV.frz, CR] at h ⊢
    exact ⟨h.1, ih h.2⟩
  | tup a => intro T cs h; simp only [CR] at h
  | _ => intro T cs h; exact killed h

theorem SRd.frz {n : Nat} {g : Bool} {t : Ty} {l : List t.D} (ho : ob.get n = some (.arr g t l)) (hF : Freed E (frzOb ob n g t l) μ w n g t l) {x : AV} {v : Value}
    (h : SRd E ob μ w x v) : SRd E (frzOb ob n g t l) μ w (x.frz n g t l) v := by
  rcases h with rfl | ⟨T, h1, h2⟩
  · exact .inl rfl
  · exact .inr ⟨T, h1.frz ho hF, h2⟩
theorem TR.frz {n : Nat} {g : Bool} {t : Ty} {l : List t.D} (ho : ob.get n = some (.arr g t l)) (hF : Freed E (frzOb ob n g t l) μ w n g t l) :
    {x : AV} → {vs : List Value} → TR E ob μ w x vs → TR E (frzOb ob n g t l) μ w (x.frz n g t l) vs
  | .nil, [], h => h
  | .cons h t, v :: vs, hh => by simp only [AV.frz, TR] at hh ⊢; exact ⟨hh.1.frz ho hF, TR.frz ho hF hh.2⟩
  | .nil, _ :: _, h => by simp [TR] at h
  | .cons .., [], h => by simp [TR] at h
  | .v .., _, h | .sl .., _, h | .sub .., _, h | .bs .., _, h | .pe .., _, h | .pb .., _, h | .pr .., _, h | .nl .., _, h
  | .nils, _, h | .clo .., _, h | .ag .., _, h | .tup .., _, h | .dead, _, h => by simp [TR] at h
theorem VR.frz {n : Nat} {g : Bool} {t : Ty} {l : List t.D} (ho : ob.get n = some (.arr g t l)) (hF : Freed E (frzOb ob n g t l) μ w n g t l) {x : AV} {v : Value}
    (h : VR E ob μ w x v) : VR E (frzOb ob n g t l) μ w (x.frz n g t l) v := by
  have key : SR E ob μ w x v → ∃ T, CR E (frzOb ob n g t l) μ w (x.frz n g t l) T v.cells.toList ∧ Shape T v := fun ⟨T, h1, h2⟩ => ⟨T, h1.frz ho hF, h2⟩
  cases x with
  | dead => trivial
  | tup a => obtain ⟨vs, h1, h2⟩ := h; exact ⟨vs, h1, h2.frz ho hF⟩
  | _ => obtain ⟨T, h1, h2⟩ := key h; exact VR.of_cells h1 h2

theorem freezeK_sound {st : St} {n : Nat} {k : Bool → (t : Ty) → List t.D → St → Option Rr} (h : freezeK st n k = some r) :
    ∃ g t l st', k g t l st' = some r ∧ ∀ {E : Env} {μ : Mu} {a : Act} {w : World}, StR E st μ a w → StR E st' μ a w := by
  unfold freezeK at h
  split at h
  · cases h
  · rename_i hn
    split at h
    · rename_i g t l ho
      refine ⟨g, t, l, { sl := st.sl.map (·.frz n g t l), ob := frzOb st.ob n g t l }, h, fun {E μ a w} hS => ?_⟩
      have hF := freed hS.rel ho hn
      have mv : Moves E st.ob μ w E (frzOb st.ob n g t l) μ w := frz_sub.moves
      exact {
        rel := hS.rel.sub frz_sub fun m o' hm => by
          rw [frzOb_get] at hm
          split at hm
          · cases hm
          · cases hg : st.ob.get m with
            | none => simp [hg] at hm
            | some o =>
              simp [hg] at hm
              subst hm
              have hob := hS.rel.objs m o hg
              cases o with
              | arr g1 t1 l1 =>
                show ObjR E _ μ w m (.arr g1 t1 l1)
                exact hob.move mv (fun k hk => by simp [Obj.names] at hk) (fun _ _ => rfl) rfl rfl
              | box T x =>
                obtain ⟨y, cs, c1, c2, c3, c4⟩ := hob
                exact ⟨y, cs, c1, c2, c3.frz ho hF, c4⟩
        slots := ⟨by simpa using hS.slots.1, fun i hi => by simpa using (hS.slots.2 i (by simpa using hi)).frz ho hF⟩
        defers := hS.defers }
    · cases h

theorem settle_sound : ∀ {ns : List Nat} {st : St} {k : St → Option Rr}, settle ns st k = some r → ∃ st', k st' = some r ∧ ∀ {E : Env} {μ : Mu} {a : Act} {w : World}, StR E st μ a w → StR E st' μ a w
  | [], st, k, h => ⟨st, h, fun hS => hS⟩
  | n :: ns, st, k, h => by
    rw [settle] at h
    split at h
    · exact settle_sound h
    · obtain ⟨g, t, l, st1, h1, h2⟩ := freezeK_sound h
      obtain ⟨st2, h3, h4⟩ := settle_sound h1
      exact ⟨st2, h3, fun hS => h4 (h2 hS)⟩

theorem storeK_sound (hC : CtxT P C) {st : St} {T : TypeId} {p x : Operand} {k : St → Option Rr} (h : storeK C st T p x k = some r) :
    ∃ st', k st' = some r ∧ ∀ {E : Env} {μ : Mu} {w : World} {act : Act}, StR E st μ act w → ∃ w', (Instr.storeAt T (act.eval p) (act.eval x)).run P w = .ok () w' ∧ StR E st' μ act w' := by
  have go : ∀ {st : St} {k : St → Option Rr}, (match st.ev x, C.TT T with
    | .nils, some (.sl t) => storeInto C st T (st.ev p) (.v true (.sl t) []) k
    | .ag l, _ => (match st.ev p with
      | .pe .. => plainV l fun g t d => storeInto C st T (st.ev p) (.v g t d) k
      | _ => storeInto C st T (st.ev p) (.ag l) k)
    | a, _ => storeInto C st T (st.ev p) a k) = some r →
      ∃ st', k st' = some r ∧ ∀ {E : Env} {μ : Mu} {w : World} {act : Act}, StR E st μ act w → ∃ w', (Instr.storeAt T (act.eval p) (act.eval x)).run P w = .ok () w' ∧ StR E st' μ act w' := by
    intro st k h
    split at h
    · rename_i t hx hT
      obtain ⟨st', h1, h2⟩ := storeInto_sound hC h
      refine ⟨st', h1, fun hS => h2 hS (hS.ev p) ?_⟩
      have hv := hS.ev x
      rw [hx] at hv
      have := typed_VR (t := .sl t) hv
      simpa [typed, AV.isNils] using this
    · rename_i l hx
      have hfin : ∀ {k : St → Option Rr}, storeInto C st T (st.ev p) (.ag l) k = some r → ∃ st', k st' = some r ∧ ∀ {E : Env} {μ : Mu} {w : World} {act : Act}, StR E st μ act w →
          ∃ w', (Instr.storeAt T (act.eval p) (act.eval x)).run P w = .ok () w' ∧ StR E st' μ act w' := fun h => by
        obtain ⟨st', h1, h2⟩ := storeInto_sound hC h
        exact ⟨st', h1, fun hS => h2 hS (hS.ev p) (by have hv := hS.ev x; rwa [hx] at hv)⟩
      split at h
      · obtain ⟨g, t, d, h1, h2⟩ := plainV_sound h
        obtain ⟨st', h3, h4⟩ := storeInto_sound hC h1
        refine ⟨st', h3, fun hS => h4 hS (hS.ev p) ?_⟩
        have hv := hS.ev x
        rw [hx] at hv
        obtain ⟨T', c1, c2⟩ := hv
        simp only [CR] at c1
        obtain ⟨rfl, c3⟩ := h2 c1.2
        exact VR.v_iff.2 ⟨c3, c2⟩
      · exact hfin h
    · obtain ⟨st', h1, h2⟩ := storeInto_sound hC h
      exact ⟨st', h1, fun hS => h2 hS (hS.ev p) (hS.ev x)⟩
  unfold storeK at h
  simp only at h
  split at h
  · obtain ⟨st1, h1, h2⟩ := settle_sound h
    obtain ⟨st2, h3, h4⟩ := go h1
    exact ⟨st2, h3, fun hS => h4 (h2 hS)⟩
  · exact go h

end
end Go.Eng

/- The engine, part 22: append. -/
namespace Go.Eng

section
variable {P : Program} {C : Ctx} {Rr : Type} {r : Rr} {E : Env} {ob : Store} {μ : Mu} {w w' : World}

theorem StR.heap {st : St} {a : Act} (hS : StR E st μ a w) (h : w'.heap = w.heap) (hio : Io w w') : StR E st μ a w' := by
  have mv : Moves E st.ob μ w E st.ob μ w' := ⟨by rw [h]; exact Nat.le_refl _, fun _ _ hs _ => hs, fun _ _ _ => by rw [h]⟩
  exact {
    rel := {
      lent := hS.rel.lent
      size := by rw [h]; exact hS.rel.size
      io := hS.rel.io.trans hio
      frame := fun b hb hx => by rw [h]; exact hS.rel.frame b hb hx
      own := fun n o x h1 h2 => by rw [h]; exact hS.rel.own n o x h1 h2
      inj := hS.rel.inj
      keep := hS.rel.keep
      objs := fun n o ho => (hS.rel.objs n o ho).move mv (fun k _ => Keeps.refl _ _ k) (fun _ _ => by rw [h]) rfl rfl }
    slots := hS.slots.move mv fun _ _ n _ => Keeps.refl _ _ n
    defers := hS.defers }
theorem VR.heap {x : AV} {v : Value} (hv : VR E ob μ w x v) (h : w'.heap = w.heap) : VR E ob μ w' x v :=
  hv.move ⟨by rw [h]; exact Nat.le_refl _, fun _ _ hs _ => hs, fun _ _ _ => by rw [h]⟩ fun n _ => Keeps.refl _ _ n

theorem growBy_le (n : Nat) : ∀ (k c : Nat), 256 ≤ c → c ≤ 2 * n → Builtin.growBy n k c ≤ 2 * n
  | 0, c, _, h => by simpa [Builtin.growBy] using h
  | k + 1, c, h1, h2 => by
    rw [Builtin.growBy]
    split
    · exact h2
    · rename_i hc; exact growBy_le n k _ (by omega) (by omega)
theorem nextcap_le {need cap : Nat} (h : cap < need) : Builtin.nextslicecap need cap ≤ 2 * need := by
  unfold Builtin.nextslicecap
  split
  · omega
  · split
    · omega
    · exact growBy_le need 4 cap (by omega) (by omega)

/-- what is appended: n elements, their cells -/
structure Src (P : Program) (w : World) (T1 : TypeId) (size n : Nat) (zc : Array Value) (x : Value) (new : Array Value) : Prop where
  ex : (((∃ e1, P.underlying T1 = some (.slice e1)) ∨ P.underlying T1 = some .string) ∧ (Builtin.lenOf x).run P w = .ok n w ∧ ∀ w', w'.heap = w.heap → (Builtin.firstCells size n x).run P w' = .ok new w') ∨
    (∃ k, P.underlying T1 = some (.int k) ∧ x = .int .i64 n ∧ n ≤ maxI ∧ new = if n * size = 0 then #[] else Builtin.zeroCells zc n)

theorem wrap_of_ok {k : IntKind} {n : Int} (h : ok k n) : k.wrap n = n := by
  cases k <;> simp [ok, IntKind.min, IntKind.max, IntKind.signed, IntKind.bits] at h <;> simp only [IntKind.wrap, IntKind.signed, IntKind.bits] <;> simp <;> (try split) <;> omega

theorem zeroCells_size (z : Array Value) (n : Nat) : (Builtin.zeroCells z n).size = n * z.size := by simp [Builtin.zeroCells]

theorem run_newRow (e : TypeId) (cs : Array Value) (w : World) : (newRow e cs).run P w = .ok ⟨w.heap.size, 0, none⟩ (World.pushed w cs e) := rfl

/-- append, both ways -/
theorem append_run {T0 T1 ty e : TypeId} {t : Ty} {i : TypeInfo} {B : Nat} (hu : P.underlying T0 = some (.slice e)) (he : TOK P t e) (hi : P.info? e = some i) (hB : i.bytes = B) (hB0 : 0 < B)
    {zv : Value} (hz : ∀ w, (zeroValue e).run P w = .ok zv w) {base : Option Addr} {sLen sCap n : Nat} {x : Value} {new : Array Value} (hs : Src P w T1 t.size n zv.cells x new) (hroom : (sLen + n) * B ≤ room) :
    (sLen + n ≤ sCap ∧ ∀ w', (match base with | some a => (storeCells (a.add (sLen * t.size)) new.toList).run P w | none => .ok () w) = .ok () w' →
      (Builtin.append_ #[T0, T1] ty #[.slice base sLen sCap, x]).run P w = .ok (.slice base (sLen + n) sCap) w') ∨
    (sCap < sLen + n ∧ ∃ newCap w1, sLen + n ≤ newCap ∧ w1.heap = w.heap ∧ Io w w1 ∧ ∀ old, (Builtin.firstCells t.size sLen (.slice base sLen sCap)).run P w1 = .ok old w1 →
      (Builtin.append_ #[T0, T1] ty #[.slice base sLen sCap, x]).run P w =
        .ok (.slice (some ⟨w.heap.size, 0, none⟩) (sLen + n) newCap) (World.pushed w1 (old ++ new ++ Builtin.zeroCells zv.cells (newCap - (sLen + n))) e)) := by
  have hinfo : ∀ w, (typeInfo e).run P w = .ok i w := fun w => by simp [typeInfo, hi]
  have hmax : ¬ (((sLen + n : Nat) : Int) > IntKind.i64.max) := by
    have h1 : sLen + n ≤ (sLen + n) * B := Nat.le_mul_of_pos_right _ hB0
    simp [IntKind.max, IntKind.signed, IntKind.bits, room] at *; omega
  have hbig : sCap < sLen + n → ¬ (Builtin.nextslicecap (sLen + n) sCap * B > 2 ^ 48) := fun hc => by
    have h1 := nextcap_le hc
    have h2 := Nat.mul_le_mul_right B h1
    simp only [room] at hroom
    rw [Nat.mul_assoc] at h2
    omega
  have hwrap : n ≤ maxI → IntKind.i64.wrap (n : Int) = (n : Int) := fun hn => wrap_of_ok (ok_len hn)
  have hnb : (n : Int) * (B : Int) ≤ 2 ^ 48 := by
    have h1 : n * B ≤ (sLen + n) * B := Nat.mul_le_mul_right B (by omega)
    simp only [room] at hroom
    have h2 : ((n * B : Nat) : Int) ≤ 2 ^ 48 := by omega
    simpa using h2
  by_cases hc : sLen + n ≤ sCap
  · refine .inl ⟨hc, fun w' hst => ?_⟩
    rcases hs.ex with ⟨⟨e1, hd⟩ | hd, hlen, hnew⟩ | ⟨k, hk, rfl, hn, rfl⟩
    · cases base <;> simp only at hst <;> simp [Builtin.append_, run_underlying' hu, run_underlying' hd, he.sizeOf, hlen, hc, hnew w rfl, hst]
      simpa using hst
    · cases base <;> simp only at hst <;> simp [Builtin.append_, run_underlying' hu, run_underlying' hd, he.sizeOf, hlen, hc, hnew w rfl, hst]
      simpa using hst
    · have h0 : ¬ ((n : Int) < 0) := by omega
      have h1 : ¬ ((281474976710656 : Int) < (n : Int) * (i.bytes : Int)) := by rw [hB]; omega
      by_cases hz0 : n * t.size = 0
      · rw [if_pos hz0] at hst
        cases base with
        | none =>
          obtain rfl : w = w' := by simpa using hst
          simp [Builtin.append_, run_underlying' hu, run_underlying' hk, he.sizeOf, asInt, asIntOf, hwrap hn, h0, hinfo, h1, hc, hz0]
        | some y =>
          have hst' : (storeCells (y.add (sLen * t.size)) []).run P w = .ok () w' := by simpa using hst
          simp [Builtin.append_, run_underlying' hu, run_underlying' hk, he.sizeOf, asInt, asIntOf, hwrap hn, h0, hinfo, h1, hc, hz0, hst']
      · rw [if_neg hz0] at hst
        cases base with
        | none =>
          obtain rfl : w = w' := by simpa using hst
          simp [Builtin.append_, run_underlying' hu, run_underlying' hk, he.sizeOf, asInt, asIntOf, hwrap hn, h0, hinfo, h1, hc, hz]
        | some y =>
          have hst' : (storeCells (y.add (sLen * t.size)) (Builtin.zeroCells zv.cells n).toList).run P w = .ok () w' := by simpa using hst
          simp [Builtin.append_, run_underlying' hu, run_underlying' hk, he.sizeOf, asInt, asIntOf, hwrap hn, h0, hinfo, h1, hc, hz0, hz, hst']
  · refine .inr ⟨by omega, ?_⟩
    have hcut : sLen + n ≤ (Question.appendCap (sLen + n) sCap e).cut (w.tape w.drawn (Question.appendCap (sLen + n) sCap e)) := by
      simp [Question.cut]
    refine ⟨_, w.drew, hcut, rfl, ⟨rfl, rfl, rfl⟩, fun old hold => ?_⟩
    have hb2 : ¬ (281474976710656 < Builtin.nextslicecap (sLen + n) sCap * i.bytes) := by rw [hB]; exact hbig (by omega)
    have hmax' : ¬ ((9223372036854775807 : Int) < (sLen : Int) + (n : Int)) := by
      have := hmax; simp [IntKind.max, IntKind.signed, IntKind.bits] at this ⊢; omega
    have hf : (Question.appendCap (sLen + n) sCap e).forced = false := rfl
    rcases hs.ex with ⟨⟨e1, hd⟩ | hd, hlen, hnew⟩ | ⟨k, hk, rfl, hn, rfl⟩
    · have hnew1 := hnew w.drew rfl
      simp [Builtin.append_, run_underlying' hu, run_underlying' hd, he.sizeOf, hlen, hc, hinfo, hb2, hf, hold, hnew1, hz]
      rw [if_neg (fun h => hmax' h.1), run_newRow]
      rfl
    · have hnew1 := hnew w.drew rfl
      simp [Builtin.append_, run_underlying' hu, run_underlying' hd, he.sizeOf, hlen, hc, hinfo, hb2, hf, hold, hnew1, hz]
      rw [if_neg (fun h => hmax' h.1), run_newRow]
      rfl
    · have h0 : ¬ ((n : Int) < 0) := by omega
      have h1 : ¬ ((281474976710656 : Int) < (n : Int) * (i.bytes : Int)) := by rw [hB]; omega
      by_cases hz0 : n * t.size = 0
      · simp only [hz0, if_true]
        simp [Builtin.append_, run_underlying' hu, run_underlying' hk, he.sizeOf, asInt, asIntOf, hwrap hn, h0, hinfo, h1, hc, hz0, hb2, hf, hold, hz]
        rw [if_neg hmax', run_newRow]
        rfl
      · simp only [hz0, if_false]
        simp [Builtin.append_, run_underlying' hu, run_underlying' hk, he.sizeOf, asInt, asIntOf, hwrap hn, h0, hinfo, h1, hc, hz0, hb2, hf, hold, hz]
        rw [if_neg hmax', run_newRow]
        rfl

end
end Go.Eng

/- The engine, part 23: append, copy, make. -/
namespace Go.Eng

section
variable {P : Program} {C : Ctx} {Rr : Type} {r : Rr} {E : Env} {ob : Store} {μ : Mu} {w w' : World}

theorem firstCells_run {t : Ty} {S : Nat → Prop} {a : Option Addr} {l : List t.D} {cap n : Nat} (h1 : a = none → l = []) (h2 : ∀ y, a = some y → 0 < l.length → y.spot = none ∧ RowAt w S t l y.block y.off) (hn : n ≤ l.length) :
    ∃ new : Array Value, (∀ (P : Program) (w' : World), w'.heap = w.heap → (Builtin.firstCells t.size n (.slice a l.length cap)).run P w' = .ok new w') ∧ Row w S t (l.take n) new.toList := by
  cases a with
  | none =>
    have := h1 rfl
    subst this
    exact ⟨#[], fun P w' _ => rfl, by simpa using Row.nil w S t⟩
  | some y =>
    by_cases hpos : 0 < l.length
    case neg =>
      obtain rfl : l = [] := List.length_eq_zero_iff.1 (by omega)
      obtain rfl : n = 0 := by simpa using hn
      refine ⟨#[], fun P w' _ => ?_, by simpa using Row.nil w S t⟩
      have := run_loadCells_list (P := P) w' y [] (fun j v hj => by simp at hj)
      simpa [Builtin.firstCells] using this
    obtain ⟨s1, s2⟩ := h2 y rfl hpos
    obtain ⟨cs, c1, c2⟩ := RowAt.row rfl s2
    have c3 := c1.take n
    refine ⟨(cs.take (n * t.size)).toArray, fun P w' hw => ?_, by simpa using c3⟩
    have hl : (cs.take (n * t.size)).length = n * t.size := by rw [c3.1]; simp [Nat.min_eq_left hn]
    have := run_loadCells_list (P := P) w' y (cs.take (n * t.size)) (fun j v hj => by
      obtain ⟨hlt, rfl⟩ := List.getElem?_eq_some_iff.1 hj
      rw [add_of s1]
      have : w'.cell? ⟨y.block, y.off + j, none⟩ = w.cell? ⟨y.block, y.off + j, none⟩ := by simp only [World.cell?, hw]
      rw [this]
      rw [List.getElem_take]
      exact c2 j (by simp at hlt; omega))
    rw [hl] at this
    simpa [Builtin.firstCells] using this

theorem src_slice {T1 e1 : TypeId} {t : Ty} {g : Bool} {l : List t.D} {a : Option Addr} {cap : Nat} (hd : P.underlying T1 = some (.slice e1)) (h1 : a = none → l = [])
    (h2 : ∀ y, a = some y → 0 < l.length → y.spot = none ∧ RowAt w (Sb E ob μ g) t l y.block y.off) (zc : Array Value) :
    ∃ new, Src P w T1 t.size l.length zc (.slice a l.length cap) new ∧ Row w (Sb E ob μ g) t l new.toList := by
  obtain ⟨new, n1, n2⟩ := firstCells_run (cap := cap) h1 h2 (Nat.le_refl _)
  exact ⟨new, ⟨.inl ⟨.inl ⟨e1, hd⟩, rfl, fun w' hw => n1 P w' hw⟩⟩, by simpa using n2⟩

theorem row_bytes (S : Nat → Prop) (s : ByteArray) : Row w S (.int .u8) (bytesL s) (s.data.toList.map fun b => Value.int .u8 b.toNat) := by
  refine ⟨by simp [bytesL, Ty.size], fun i hi => ?_⟩
  have hi' : i < s.data.toList.length := by simpa [bytesL] using hi
  simp only [R, Ty.size, Nat.mul_one]
  have e : ((s.data.toList.map fun b => Value.int .u8 (b.toNat : Int)).drop i).take 1 = [Value.int .u8 (s.data.toList[i].toNat : Int)] := by
    rw [List.drop_eq_getElem_cons (by simpa using hi'), List.take_succ_cons, List.take_zero, List.getElem_map]
  rw [e]
  simp [bytesL, ok_u8]

theorem src_str {T1 : TypeId} {s : ByteArray} (hd : P.underlying T1 = some .string) (zc : Array Value) (S : Nat → Prop) :
    ∃ new, Src P w T1 (Ty.int .u8).size (bytesL s).length zc (.string s) new ∧ Row w S (.int .u8) (bytesL s) new.toList := by
  have hl : (bytesL s).length = s.size := by simp [bytesL]
  refine ⟨s.data.map fun b => .int .u8 b.toNat, ⟨.inl ⟨.inr hd, by simp [Builtin.lenOf, hl], fun w' _ => ?_⟩⟩, by simpa using row_bytes S s⟩
  have : s.extract 0 s.size = s := by
    apply ByteArray.ext
    simp
  simp [Builtin.firstCells, hl, this]

theorem src_zeros {T1 : TypeId} {k : IntKind} {t : Ty} {n : Nat} {zv : Value} (hd : P.underlying T1 = some (.int k)) (hz : zv.cells.toList = t.zeros) (ht : t.plain = true) (hn : n ≤ maxI) (S : Nat → Prop) :
    ∃ new, Src P w T1 t.size (List.replicate n t.zero).length zv.cells (.int .i64 n) new ∧ Row w S t (List.replicate n t.zero) new.toList := by
  refine ⟨if n * t.size = 0 then #[] else Builtin.zeroCells zv.cells n, ⟨.inr ⟨k, hd, by simp, by simpa using hn, by simp⟩⟩, ?_⟩
  have hrow := zero_row w S ht n
  have e : (List.replicate n t.zeros).flatten = (if n * t.size = 0 then #[] else Builtin.zeroCells zv.cells n : Array Value).toList := by
    have hzl : zv.cells.size = t.size := by have := congrArg List.length hz; simpa [Ty.zeros_len] using this
    split
    · rename_i h0
      apply List.eq_nil_of_length_eq_zero
      simp [List.length_flatten, Ty.zeros_len, h0]
    · rename_i h0
      apply List.ext_getElem
      · simp [List.length_flatten, Ty.zeros_len, zeroCells_size, hzl]
      · intro i h1 h2
        have hi : i < n * t.size := by simpa [zeroCells_size, hzl] using h2
        have hs : 0 < t.size := Nat.pos_of_ne_zero fun h => by rw [h] at hi; omega
        have hq : i / t.size < n := by rw [Nat.div_lt_iff_lt_mul hs]; exact hi
        have hr := drop_rep t.zeros n t.size t.zeros_len (i / t.size) hq
        have hm := Nat.mod_lt i hs
        have hdm : i / t.size * t.size + i % t.size = i := by rw [Nat.mul_comm]; exact Nat.div_add_mod i t.size
        have g1 : ((List.replicate n t.zeros).flatten)[i] = t.zeros[i % t.size]'(by rw [Ty.zeros_len]; exact hm) := by
          have := congrArg (·[i % t.size]?) hr
          simp only [List.getElem?_take, if_pos hm, List.getElem?_drop, hdm] at this
          rw [List.getElem?_eq_getElem h1, List.getElem?_eq_getElem (by rw [Ty.zeros_len]; exact hm)] at this
          exact Option.some.inj this
        rw [g1]
        simp only [Builtin.zeroCells, Array.getElem_toList, Array.getElem_map, Array.getElem_range, hzl]
        rw [getElem!_pos zv.cells (i % t.size) (by rw [hzl]; exact hm)]
        simp only [← hz, Array.getElem_toList]
  rw [← e]; exact hrow

/-- append to an own array -/
theorem append_own (hC : CtxT P C) {st : St} {a : Act} {T0 T1 ty : TypeId} {t : Ty} (hT : C.TT T0 = some (.sl t)) {n : Nat} {g g' : Bool} {l ys : List t.D} (ho : st.ob.get n = some (.arr g t l))
    (hS : StR E st μ a w) {x : Value} (hB0 : 0 < C.EB T0) (hroom : (l.length + ys.length) * C.EB T0 ≤ room)
    (hs : ∀ zv : Value, zv.cells.toList = t.zeros → ∃ new, Src P w T1 t.size ys.length zv.cells x new ∧ Row w (Sb E st.ob μ g') t ys new.toList) :
    ∃ v w' μ', (Builtin.append_ #[T0, T1] ty #[.slice (μ.addr n) l.length (μ.cap n), x]).run P w = .ok v w' ∧
      StR E { st.kill n with ob := (st.kill n).ob.put n (.arr (g && g') t (l ++ ys)) } μ' a w' ∧ VR E ((st.kill n).ob.put n (.arr (g && g') t (l ++ ys))) μ' w' (.sl n) v := by
  obtain ⟨e, hu, he⟩ := (hC.tt _ _ hT).slElem
  obtain ⟨zv, hz, hz1, _⟩ := he.zero
  obtain ⟨i, z, hi, hsz, _⟩ := he.head
  have hB : i.bytes = C.EB T0 := by have := hC.eb T0 _ e hT hu; simpa [hi] using this
  obtain ⟨new, src, hnew⟩ := hs zv hz1
  obtain ⟨b1, b2, b3, b4⟩ := objs_arr hS.rel ho
  have hneed : l.length + ys.length ≤ maxI := by
    have h1 : l.length + ys.length ≤ (l.length + ys.length) * C.EB T0 := Nat.le_mul_of_pos_right _ hB0
    simp only [room, maxI] at *; omega
  have hK := hS.kill n
  have hoK : (st.kill n).ob.get n = some (.arr g t l) := by simp only [St.kill, Store.get_kill, ho, Option.map_some, Obj.kill]
  have mvK : Moves E st.ob μ w E (st.kill n).ob μ w := (Sub.kill n).moves
  have hVR : ∀ {μ' w'} {aa : Option Addr} {cc : Nat}, μ'.addr n = aa → μ'.cap n = cc → VR E ((st.kill n).ob.put n (.arr (g && g') t (l ++ ys))) μ' w' (.sl n) (.slice aa (l.length + ys.length) cc) := by
    intro μ' w' aa cc ha hc
    refine ⟨.sl t, ?_, by simp [Ty.isAgg], fun _ => rfl⟩
    simp only [CR, Value.cells]
    exact ⟨_, t, l ++ ys, Store.get_put_self _ _ _, rfl, by rw [ha, hc, List.length_append]⟩
  rcases append_run (ty := ty) hu he hi hB hB0 hz (base := μ.addr n) (sLen := l.length) (sCap := μ.cap n) src hroom with ⟨hc, hrun⟩ | ⟨hc, newCap, w1, hcap, hw1, hio1, hrun⟩
  · cases ha : μ.addr n with
    | none =>
      have h0 := b3 ha
      have hl0 : l = [] := List.eq_nil_of_length_eq_zero (by omega)
      have hy0 : ys = [] := List.eq_nil_of_length_eq_zero (by omega)
      rw [ha] at hrun
      have hchg : Chg (st.kill n).ob μ w n none w := ⟨Nat.le_refl _, Io.refl _, fun _ _ _ => rfl, fun y hy => by cases hy⟩
      have := hK.put hchg (o' := .arr (g && g') t (l ++ ys)) (c' := μ.cap n) (fun h => (kill_free st n h).elim) (by
        simp only [ObjR, Mu.set_addr, Mu.set_cap]
        subst hl0; subst hy0
        exact ⟨Nat.zero_le _, Nat.zero_le _, fun _ => h0, fun y hy => by cases hy⟩)
      exact ⟨_, w, _, hrun w rfl, this (.inr (.inl ⟨_, _, _, hoK⟩)), hVR (Mu.set_addr _ _ _ _) (Mu.set_cap _ _ _ _)⟩
    | some x =>
      obtain ⟨s1, s2, s3⟩ := b4 x ha
      obtain ⟨cs, c1, c2⟩ := RowAt.row rfl s3
      have hnl := hnew.1
      have hcm : (l.length + ys.length) * t.size ≤ μ.cap n * t.size := Nat.mul_le_mul_right _ hc
      rw [Nat.add_mul] at hcm
      obtain ⟨w1, w2, w3, w4⟩ := s2.store (p := l.length * t.size) hnew.one (by rw [hnl]; omega)
      rw [ha] at hrun
      have hst : (storeCells (x.add (l.length * t.size)) new.toList).run P w = .ok () (w.setCells x.block (x.off + l.length * t.size) new.toList) := by rw [add_of s1]; exact w1 P
      have hchg : Chg (st.kill n).ob μ w n (μ.addr n) _ := store_chg hK.rel hoK ha (x.off + l.length * t.size) new.toList rfl
      have mv : Moves E st.ob μ w E ((st.kill n).ob.put n (.arr (g && g') t (l ++ ys))) (μ.set n (μ.addr n) (μ.cap n)) _ := mvK.trans hchg.moves
      have := hK.put hchg (o' := .arr (g && g') t (l ++ ys)) (c' := μ.cap n) (fun h => (kill_free st n h).elim) (by
        simp only [ObjR, Mu.set_addr, Mu.set_cap]
        refine ⟨by simpa using hc, by simpa using hneed, b3, fun y hy => ?_⟩
        rw [ha] at hy
        obtain rfl := Option.some.inj hy
        refine ⟨s1, w2, ?_⟩
        have hrow : Row w (Sb E st.ob μ (g && g')) t (l ++ ys) (cs ++ new.toList) := (c1.weaken fun b hb => hb.and).append (hnew.weaken fun b hb => hb.and')
        have hrow' : Row _ (Sb E _ _ (g && g')) t (l ++ ys) _ := hrow.stay (fun b hb hz => mv.agree b hb.weak hz) (fun b hb hz => mv.sb _ b hb hz) mv.size
        have hat : CellsAt (w.setCells x.block (x.off + l.length * t.size) new.toList) x.block x.off (cs ++ new.toList) := by
          intro j hj
          by_cases hjc : j < cs.length
          · rw [List.getElem_append_left hjc]
            exact (w4 0 cs (.inl (by rw [c1.1]; omega)) (by simpa using c2)) j hjc |> fun h => by simpa using h
          · rw [List.getElem_append_right (by omega)]
            simp only [List.length_append] at hj
            have := w3 (j - cs.length) (by omega)
            rw [← c1.1, show x.off + cs.length + (j - cs.length) = x.off + j by omega] at this
            rw [← c1.1]
            exact this
        exact fun j hj => (hrow'.at hat) j (by simpa using hj))
      exact ⟨_, _, _, hrun _ hst, this (.inr (.inl ⟨_, _, _, hoK⟩)), hVR (by rw [Mu.set_addr, ha]) (Mu.set_cap _ _ _ _)⟩
  · obtain ⟨old, o1, o2⟩ := firstCells_run (w := w) (S := Sb E st.ob μ g) (cap := μ.cap n) (a := μ.addr n) (l := l) (n := l.length) (fun h => by
      have h0 := b3 h
      exact List.eq_nil_of_length_eq_zero (by omega)) (fun y hy _ => ⟨(b4 y hy).1, (b4 y hy).2.2⟩) (Nat.le_refl _)
    rw [List.take_length] at o2
    have hrun' := hrun old (o1 P w1 hw1)
    have hK1 : StR E (st.kill n) μ a w1 := hK.heap hw1 hio1
    have mvK1 : Moves E st.ob μ w E (st.kill n).ob μ w1 := mvK.trans ⟨by rw [hw1]; exact Nat.le_refl _, fun _ _ hs _ => hs, fun _ _ _ => by rw [hw1]⟩
    have hsz : w1.heap.size = w.heap.size := by rw [hw1]
    have hchg : Chg (st.kill n).ob μ w1 n (some ⟨w1.heap.size, 0, none⟩) (World.pushed w1 (old ++ new ++ Builtin.zeroCells zv.cells (newCap - (l.length + ys.length))) e) :=
      ⟨by rw [pushed_size]; omega, ⟨rfl, rfl, rfl⟩, fun b hb _ => pushed_old _ _ _ _ hb, fun y hy => by
        obtain rfl := Option.some.inj hy
        exact ⟨by rw [pushed_size]; simp, fun h => by simp at h⟩⟩
    have mv : Moves E st.ob μ w E ((st.kill n).ob.put n (.arr (g && g') t (l ++ ys))) (μ.set n (some ⟨w1.heap.size, 0, none⟩) newCap) _ := mvK1.trans hchg.moves
    have hzl : zv.cells.size = t.size := by have := congrArg List.length hz1; simpa [Ty.zeros_len] using this
    have hlen1 : old.size = l.length * t.size := by simpa using o2.1
    have hlen2 : new.size = ys.length * t.size := by simpa using hnew.1
    have hsize : newCap * t.size ≤ (old ++ new ++ Builtin.zeroCells zv.cells (newCap - (l.length + ys.length))).size := by
      simp only [Array.size_append, zeroCells_size, hzl, hlen1, hlen2, Nat.sub_mul, Nat.add_mul]
      have := Nat.mul_le_mul_right t.size hcap
      rw [Nat.add_mul] at this
      omega
    have := hK1.put hchg (o' := .arr (g && g') t (l ++ ys)) (c' := newCap) (fun h => (kill_free st n h).elim) (by
      simp only [ObjR, Mu.set_addr, Mu.set_cap]
      refine ⟨by simpa using hcap, by simpa using hneed, (fun h => by cases h), fun y hy => ?_⟩
      obtain rfl := Option.some.inj hy
      refine ⟨rfl, pushed_own _ _ _ _ hsize, ?_⟩
      have hrow : Row w (Sb E st.ob μ (g && g')) t (l ++ ys) (old.toList ++ new.toList) := (o2.weaken fun b hb => hb.and).append (hnew.weaken fun b hb => hb.and')
      have hrow' : Row _ (Sb E _ _ (g && g')) t (l ++ ys) _ := hrow.stay (fun b hb hz => mv.agree b hb.weak hz) (fun b hb hz => mv.sb _ b hb hz) mv.size
      have hat : CellsAt (World.pushed w1 (old ++ new ++ Builtin.zeroCells zv.cells (newCap - (l.length + ys.length))) e) w1.heap.size 0 (old.toList ++ new.toList) := by
        refine pushed_at _ _ _ _ _ (fun j hj => ?_)
        rw [Nat.zero_add, ← Array.getElem?_toList]
        simp only [Array.toList_append]
        rw [List.getElem?_append_left hj, List.getElem?_eq_getElem hj]
      exact fun j hj => (hrow'.at hat) j (by simpa using hj))
    rw [← hsz] at hrun'
    exact ⟨_, _, _, hrun', this (.inr (.inl ⟨_, _, _, hoK⟩)), hVR (Mu.set_addr _ _ _ _) (Mu.set_cap _ _ _ _)⟩

theorem len_of_ok {c : Int} (h0 : 0 ≤ c) (h : ok .i64 c) : c.toNat ≤ maxI := by
  simp [ok, IntKind.min, IntKind.max, IntKind.signed, IntKind.bits, maxI] at *; omega

theorem putK_sound (hC : CtxT P C) {st : St} {T0 T1 : TypeId} {t : Ty} (hT : C.TT T0 = some (.sl t)) {s : AV} {dst : Nat} {g' : Bool} {ys : List t.D} {k : AV → St → Option Rr}
    (h : putK C st T0 t s dst g' ys k = some r) :
    ∃ z st', k z st' = some r ∧ ∀ {E : Env} {μ : Mu} {w : World} {a : Act} {v0 x : Value} (ty : TypeId), StR E st μ a w → VR E st.ob μ w s v0 →
      (∀ zv : Value, zv.cells.toList = t.zeros → ∃ new, Src P w T1 t.size ys.length zv.cells x new ∧ Row w (Sb E st.ob μ g') t ys new.toList) →
      ∃ v w' μ', (Builtin.append_ #[T0, T1] ty #[v0, x]).run P w = .ok v w' ∧ StR E st' μ' a w' ∧ VR E st'.ob μ' w' z v := by
  unfold putK at h
  split at h
  · rename_i n
    split at h
    · rename_i g t' l ho
      split at h
      · rename_i ht
        subst ht
        split at h
        · rename_i hb
          refine ⟨_, _, h, fun {E μ w a v0 x} ty hS hv hs => ?_⟩
          obtain ⟨g1, t1, l1, a1, rfl⟩ := hv.sl
          rw [ho] at a1
          simp only [Option.some.injEq, Obj.arr.injEq] at a1
          obtain ⟨rfl, rfl, a1⟩ := a1
          obtain rfl := eq_of_heq a1
          exact append_own hC hT ho hS hb.1 hb.2 hs
        · cases h
      · cases h
    · cases h
  · split at h
    · rename_i hb
      refine ⟨_, _, h, fun {E μ w a v0 x} ty hS hv hs => ?_⟩
      obtain ⟨T', c1, _, c3⟩ := hv
      simp only [CR] at c1
      obtain ⟨⟨t', rfl⟩, e1⟩ := c1
      rw [c3 rfl] at e1
      simp only [List.cons.injEq, and_true] at e1
      subst e1
      have hn := hS.new (Io.refl _) (nm_ge _ _) (n := nm dst 0) (o' := .arr true t []) (w' := w) (a' := none) (c' := 0) (Nat.le_refl _) (fun _ _ => rfl) (fun y hy => by cases hy) (fun hmv hk => by
        simp only [ObjR, Mu.set_addr, Mu.set_cap]
        exact ⟨Nat.zero_le _, Nat.zero_le _, fun _ => trivial, fun y hy => by cases hy⟩)
      obtain ⟨hS1, mv, _⟩ := hn
      have := append_own (x := x) (T1 := T1) (ty := ty) (g' := g') (ys := ys) hC hT (St.new_get st (nm dst 0) (.arr true t [])) hS1 hb.1 (by simpa using hb.2) (fun zv hz => by
        obtain ⟨new, n1, n2⟩ := hs zv hz
        exact ⟨new, n1, n2.stay (fun b hb hz => mv.agree b hb.weak hz) (fun b hb hz => mv.sb _ b hb hz) mv.size⟩)
      rw [Mu.set_addr, Mu.set_cap] at this
      simpa [St.grow] using this
    · cases h
  · cases h

theorem appendK_sound (hC : CtxT P C) {st : St} {T0 T1 : TypeId} {s x : AV} {dst : Nat} {k : AV → St → Option Rr} (h : appendK C st T0 T1 s x dst k = some r) :
    ∃ z st', k z st' = some r ∧ ∀ {E : Env} {μ : Mu} {w : World} {a : Act} {v0 v1 : Value} (ty : TypeId), StR E st μ a w → VR E st.ob μ w s v0 → VR E st.ob μ w x v1 →
      ∃ v w' μ', (Builtin.append_ #[T0, T1] ty #[v0, v1]).run P w = .ok v w' ∧ StR E st' μ' a w' ∧ VR E st'.ob μ' w' z v := by
  unfold appendK at h
  split at h
  · rename_i t hT
    split at h
    · rename_i t1 hT1
      obtain ⟨e1, hd, _⟩ := (hC.tt _ _ hT1).slElem
      split at h
      · obtain ⟨g', ys, h1, h2⟩ := elemsK_sound h
        obtain ⟨z, st', h3, h4⟩ := putK_sound (T1 := T1) hC hT h1
        refine ⟨z, st', h3, fun ty hS hv hx => h4 ty hS hv fun zv hz => ?_⟩
        obtain ⟨a, cap, rfl, l1, l2, l3⟩ := h2 hS.rel hx
        obtain ⟨new, s1, s2⟩ := src_slice (P := P) hd l2 l3 zv.cells
        exact ⟨new, s1, s2.norm⟩
      · cases h
    · rename_i j hT1
      have hd := hC.tt _ _ hT1
      simp only [TOK] at hd
      split at h
      · rename_i g c
        split at h
        · rename_i hpl
          unfold zerosK at h
          split at h
          · rename_i hc
            obtain ⟨z, st', h3, h4⟩ := putK_sound (T1 := T1) hC hT h
            refine ⟨z, st', h3, fun {E μ w a v0 v1} ty hS hv hx => h4 ty hS hv fun zv hz => ?_⟩
            obtain ⟨rfl, hok⟩ := hx.int
            have hcn : (c : Int) = ((Int.toNat c : Nat) : Int) := (Int.toNat_of_nonneg hc).symm
            have := src_zeros (P := P) (w := w) (n := Int.toNat c) hd.2 hz hpl (len_of_ok hc hok) (Sb E st.ob μ true)
            rw [← hcn] at this
            exact this
          · cases h
        · cases h
      · cases h
    · rename_i hT1
      have hd := hC.tt _ _ hT1
      simp only [TOK] at hd
      split at h
      · rename_i g b
        split at h
        · rename_i ht
          subst ht
          obtain ⟨z, st', h3, h4⟩ := putK_sound (T1 := T1) hC hT h
          refine ⟨z, st', h3, fun ty hS hv hx => h4 ty hS hv fun zv hz => ?_⟩
          obtain rfl := hx.str
          exact src_str hd.2 zv.cells _
        · cases h
      · cases h
    · cases h
  · cases h

end
end Go.Eng

/- The engine, part 24: make, conversions, minimum and maximum. -/
namespace Go.Eng

section
variable {P : Program} {C : Ctx} {Rr : Type} {r : Rr} {E : Env} {ob : Store} {μ : Mu} {w w' : World}

theorem madeCells (t : Ty) {z : Value} (hz : z.cells.toList = t.zeros) (n : Nat) : ((Array.range (n * t.size)).map (z.cells[· % z.cells.size]!)).toList = (List.replicate n t.zeros).flatten := by
  have hzl : z.cells.size = t.size := by have := congrArg List.length hz; simpa [Ty.zeros_len] using this
  apply List.ext_getElem
  · simp [List.length_flatten, Ty.zeros_len]
  · intro i h1 h2
    have hi : i < n * t.size := by simpa using h1
    have hs : 0 < t.size := Nat.pos_of_ne_zero fun h => by rw [h] at hi; omega
    have hq : i / t.size < n := by rw [Nat.div_lt_iff_lt_mul hs]; exact hi
    have hr := drop_rep t.zeros n t.size t.zeros_len (i / t.size) hq
    have hm := Nat.mod_lt i hs
    have hdm : i / t.size * t.size + i % t.size = i := by rw [Nat.mul_comm]; exact Nat.div_add_mod i t.size
    have g1 : ((List.replicate n t.zeros).flatten)[i] = t.zeros[i % t.size]'(by rw [Ty.zeros_len]; exact hm) := by
      have := congrArg (·[i % t.size]?) hr
      simp only [List.getElem?_take, if_pos hm, List.getElem?_drop, hdm] at this
      rw [List.getElem?_eq_getElem h2, List.getElem?_eq_getElem (by rw [Ty.zeros_len]; exact hm)] at this
      exact Option.some.inj this
    rw [g1]
    simp only [Array.getElem_toList, Array.getElem_map, Array.getElem_range, hzl]
    rw [getElem!_pos z.cells (i % t.size) (by rw [hzl]; exact hm)]
    simp only [← hz, Array.getElem_toList]

theorem map_range0 (f : Nat → Value) : Array.map f (Array.range 0) = #[] := by apply Array.ext <;> simp

theorem makeI_sound (hC : CtxT P C) {st : St} {T : TypeId} {t : Ty} (hT : C.TT T = some (.sl t)) {l c : Int} {dst : Nat} {k : AV → St → Option Rr} (h : makeI C st T t l c dst k = some r) :
    ∃ z st', k z st' = some r ∧ ∀ {E : Env} {μ : Mu} {w : World} {a : Act}, StR E st μ a w → ok .i64 l → ok .i64 c →
      ∃ v w' μ', (Instr.makeSlice T (.int .i64 l) (.int .i64 c)).run P w = .ok v w' ∧ StR E st' μ' a w' ∧ VR E st'.ob μ' w' z v := by
  obtain ⟨e, hu, he⟩ := (hC.tt _ _ hT).slElem
  obtain ⟨zv, hz, hz1, _⟩ := he.zero
  obtain ⟨i, z, hi, hsz, _⟩ := he.head
  have hB : i.bytes = C.EB T := by have := hC.eb T _ e hT hu; simpa [hi] using this
  unfold makeI at h
  split at h
  · rename_i hb
    split at h
    · rename_i hpl
      refine ⟨_, _, h, fun {E μ w a} hS hl hc => ?_⟩
      have hinfo : ∀ w, (typeInfo e).run P w = .ok i w := fun w => by simp [typeInfo, hi]
      have hwl := wrap_of_ok hl
      have hwc := wrap_of_ok hc
      have hc0 : 0 ≤ c := by omega
      have hcs : c.toNat * t.size ≤ c.toNat * t.size := Nat.le_refl _
      have hrow := zero_row w (Sb E st.ob μ true) hpl l.toNat
      have hcc : ((List.replicate c.toNat t.zeros).flatten).take (l.toNat * t.size) = (List.replicate l.toNat t.zeros).flatten := by
        have h1 : c.toNat = l.toNat + (c.toNat - l.toNat) := by omega
        rw [h1, List.replicate_append_replicate.symm, List.flatten_append, List.take_left']
        simp [List.length_flatten, Ty.zeros_len]
      have hlm : l.toNat ≤ maxI := len_of_ok hb.1 hl
      have mk := new_arr (μ := μ) (w := w) hS (nm_ge _ _) (n := nm dst 0) (g := true) (t := t) (l := List.replicate l.toNat t.zero) (cs := (Array.range (c.toNat * t.size)).map (zv.cells[· % zv.cells.size]!)) e (cap := c.toNat)
        (by rw [madeCells t hz1, List.length_replicate, hcc]; exact hrow) (by simp; omega) (by simpa using hlm) (by simp)
      obtain ⟨μ', m1, m2⟩ := mk
      refine ⟨_, _, μ', ?_, m1, m2⟩
      have htl : ¬ ((281474976710656 : Int) < (i.bytes : Int) * c) := by
        rw [hB, Int.mul_comm]; have := hb.2.2; simp only [room] at this; omega
      have h0 : ¬ (l < 0) := by omega
      have h1 : ¬ (c < l) := by omega
      have h2 : ¬ (c < 0) := by omega
      by_cases hn0 : c.toNat * t.size = 0
      · simp [Instr.makeSlice, run_underlying' hu, asInt, asIntOf, hinfo, hwl, hwc, h0, h1, h2, he.sizeOf, hn0]
        rw [if_neg htl, run_newRow, map_range0, map_range0]
        rfl
      · simp [Instr.makeSlice, run_underlying' hu, asInt, asIntOf, hinfo, hwl, hwc, h0, h1, h2, he.sizeOf, hn0, hz]
        rw [if_neg htl, run_newRow]
        rfl
    · cases h
  · cases h

theorem makeSliceK_sound (hC : CtxT P C) {st : St} {T : TypeId} {l c : AV} {dst : Nat} {k : AV → St → Option Rr} (h : makeSliceK C st T l c dst k = some r) :
    ∃ z st', k z st' = some r ∧ ∀ {E : Env} {μ : Mu} {w : World} {a : Act} {v0 v1 : Value}, StR E st μ a w → VR E st.ob μ w l v0 → VR E st.ob μ w c v1 →
      ∃ v w' μ', (Instr.makeSlice T v0 v1).run P w = .ok v w' ∧ StR E st' μ' a w' ∧ VR E st'.ob μ' w' z v := by
  unfold makeSliceK at h
  split at h
  · rename_i t hT
    split at h
    · obtain ⟨z, st', h1, h2⟩ := makeI_sound hC hT h
      refine ⟨z, st', h1, fun hS hl hc => ?_⟩
      obtain ⟨rfl, o1⟩ := hl.int
      obtain ⟨rfl, o2⟩ := hc.int
      exact h2 hS o1 o2
    · cases h
  · cases h

theorem buildSlice_sound (hC : CtxT P C) {st : St} {T : TypeId} {t : Ty} (hT : C.TT T = some (.sl t)) {len dst : Nat} (hpl : t.plain = true) (h24 : len * t.size ≤ 2 ^ 24) {parts : List (Nat × AV)} {k : AV → St → Option Rr}
    (hlm : len ≤ maxI) (h : (listK t (List.replicate len t.zero) parts true fun g l => k (.sl (nm dst 0)) (st.new (nm dst 0) (.arr g t l))) = some r) :
    ∃ z st', k z st' = some r ∧ ∀ {E : Env} {μ : Mu} {w : World} {a : Act} {vs : Array (Nat × Value)}, StR E st μ a w → PartsR E st.ob μ w parts vs.toList →
      ∃ v w' μ', (Instr.buildSlice T len vs).run P w = .ok v w' ∧ StR E st' μ' a w' ∧ VR E st'.ob μ' w' z v := by
  obtain ⟨e, hu, he⟩ := (hC.tt _ _ hT).slElem
  obtain ⟨zv, hz, hz1, _⟩ := he.zero
  obtain ⟨g, l, h1, h2, h3⟩ := listK_sound h
  refine ⟨_, _, h1, fun {E μ w a vs} hS hp => ?_⟩
  have hrow := zero_row w (Sb E st.ob μ true) hpl len
  rw [← madeCells t hz1 len] at hrow
  obtain ⟨cells, f1, f2⟩ := h3 hp hrow
  simp only [List.length_replicate] at h2
  have mk := new_arr (μ := μ) (w := w) hS (nm_ge _ _) (n := nm dst 0) (g := g) (t := t) (l := l) (cs := cells) e (cap := len)
    (by rw [List.take_of_length_le (by rw [f2.1]; exact Nat.le_refl _)]; exact f2) (by omega) (by omega) (by have := f2.1; simp at this; rw [this, h2]; exact Nat.le_refl _)
  obtain ⟨μ', m1, m2⟩ := mk
  refine ⟨_, _, μ', ?_, m1, m2⟩
  have h24' : ¬ (len * t.size > 2 ^ 24) := by omega
  rw [h2]
  by_cases hn0 : len * t.size = 0
  · have e0 : (Array.map (fun x => zv.cells[x % zv.cells.size]!) (Array.range (len * t.size))) = #[] := by rw [hn0]; simp
    rw [e0] at f1
    have h25 : ¬ (16777216 < len * t.size) := by omega
    simp [Instr.buildSlice, run_underlying' hu, he.sizeOf, hn0, map_range0, f1, run_newRow]
  · have h25 : ¬ (16777216 < len * t.size) := by omega
    simp [Instr.buildSlice, run_underlying' hu, he.sizeOf, hn0, h25, hz, f1, run_newRow]

theorem strL_run {l : List Int} {S : Nat → Prop} {cs : List Value} (h : Row w S (.int .u8) l cs) : cs = l.map fun n => Value.int .u8 n := by
  apply List.ext_getElem
  · simpa [Ty.size] using h.1
  · intro i h1 h2
    have hi : i < l.length := by simpa using h2
    have := h.2 i hi
    simp only [R, Ty.size, Nat.mul_one] at this
    rw [List.drop_eq_getElem_cons h1, List.take_succ_cons, List.take_zero] at this
    simpa using this.1

theorem bytesToString_loop (l : List Int) : ∀ (acc : ByteArray) (w : World),
    (forIn (m := Sem) (l.map fun n => Value.int .u8 n).toArray acc fun c s =>
      match c with
      | .int .u8 n => pure (ForInStep.yield (s.push (UInt8.ofNat n.toNat)))
      | _ => do
        stuck "bytesToString: byte expected"
        pure (ForInStep.yield s)).run P w = .ok (l.foldl (fun s n => s.push (UInt8.ofNat n.toNat)) acc) w := by
  induction l with
  | nil => intro acc w; simp
  | cons n l ih =>
    intro acc w
    have := ih (acc.push (UInt8.ofNat n.toNat)) w
    simp only [← Array.forIn_toList, List.map_cons, List.forIn_cons, Sem.run_bind, Sem.run_pure, Result.andThen_ok, List.foldl_cons] at this ⊢
    exact this

theorem strL_foldl (l : List Int) : ∀ (acc : ByteArray), (l.foldl (fun s n => s.push (UInt8.ofNat n.toNat)) acc) = acc ++ strL l := by
  induction l with
  | nil => intro acc; apply ByteArray.ext; simp [strL]
  | cons n l ih =>
    intro acc
    rw [List.foldl_cons, ih]
    apply ByteArray.ext
    simp [strL, ByteArray.push, ByteArray.data_append]

theorem convertK_sound (hC : CtxT P C) {st : St} {src dst : TypeId} {x : AV} {k : AV → St → Option Rr} (h : convertK C st src dst x k = some r) :
    ∃ z st', k z st' = some r ∧ ∀ {E : Env} {μ : Mu} {w : World} {a : Act} {v0 : Value}, StR E st μ a w → VR E st.ob μ w x v0 →
      ∃ v w' μ', (convert src dst v0).run P w = .ok v w' ∧ StR E st' μ' a w' ∧ VR E st'.ob μ' w' z v := by
  unfold convertK at h
  split at h
  · rename_i j0 j h1 h2
    have t1 := hC.tt _ _ h1
    have t2 := hC.tt _ _ h2
    simp only [TOK] at t1 t2
    split at h
    · refine ⟨_, _, h, fun {E μ w a v0} hS hv => ?_⟩
      obtain ⟨rfl, _⟩ := hv.int
      exact ⟨_, w, μ, by simp [convert, run_underlying' t1.2, run_underlying' t2.2, Conv.intToInt], hS, VR.mkInt (ok_wrap _ _)⟩
    · cases h
  · rename_i h1 h2
    have t1 := hC.tt _ _ h1
    have t2 := hC.tt _ _ h2
    simp only [TOK] at t1 t2
    split at h
    · refine ⟨_, _, h, fun {E μ w a v0} hS hv => ?_⟩
      obtain rfl := hv.str
      exact ⟨_, w, μ, by simp [convert, run_underlying' t1.2, run_underlying' t2.2], hS, VR.mkStr⟩
    · cases h
  · rename_i h1 h2
    obtain ⟨e, hu, he⟩ := (hC.tt _ _ h1).slElem
    simp only [TOK] at he
    have t2 := hC.tt _ _ h2
    simp only [TOK] at t2
    obtain ⟨g, l, h3, h4⟩ := elemsK_sound h
    refine ⟨_, _, h3, fun {E μ w a v0} hS hv => ?_⟩
    obtain ⟨p, cap, rfl, l1, l2, l3⟩ := h4 hS.rel hv
    refine ⟨.string (strL l), w, μ, ?_, hS, VR.mkStr⟩
    cases p with
    | none =>
      obtain rfl := l2 rfl
      simp [convert, run_underlying' hu, run_underlying' t2.2, run_underlying' he.2, Conv.bytesToString, strL]
      rfl
    | some y =>
      have hx : ∃ cs, Row w (Sb E st.ob μ g) (.int .u8) l cs ∧ ∀ j v, cs[j]? = some v → w.cell? (y.add j) = some v := by
        by_cases hpos : 0 < l.length
        · obtain ⟨s1, s2⟩ := l3 y rfl hpos
          obtain ⟨cs, c1, c2⟩ := RowAt.row rfl s2
          refine ⟨cs, c1, fun j v hj => ?_⟩
          obtain ⟨hlt, rfl⟩ := List.getElem?_eq_some_iff.1 hj
          rw [add_of s1]; exact c2 j hlt
        · obtain rfl : l = [] := List.length_eq_zero_iff.1 (by omega)
          exact ⟨[], Row.nil _ _ _, fun j v hj => by simp at hj⟩
      obtain ⟨cs, c1, c2⟩ := hx
      have hcs := strL_run c1
      have hld := run_loadCells_list (P := P) w y cs c2
      rw [show cs.length = l.length by rw [hcs]; simp] at hld
      have hloop := bytesToString_loop (P := P) l ByteArray.empty w
      rw [strL_foldl] at hloop
      have hemp : ByteArray.empty ++ strL l = strL l := by apply ByteArray.ext; simp
      rw [hemp] at hloop
      subst hcs
      simp only [convert, Sem.run_bind, run_underlying' hu, run_underlying' t2.2, run_underlying' he.2, Result.andThen_ok, Conv.bytesToString, hld]
      exact (congrArg (fun r : Result ByteArray => r.andThen fun a w' => Sem.run P (pure (Value.string a)) w') hloop).trans (by simp)
  · cases h

end
end Go.Eng

/- The engine, part 25: names and tags are changed; what is lent as plain data. -/
namespace Go.Eng

section
variable {P : Program} {C : Ctx} {Rr : Type} {r : Rr} {E E' : Env} {ob ob' : Store} {μ μ' : Mu} {w w' : World}

theorem R.sub {S S' : Nat → Prop} {t : Ty} {d : t.D} {cs : List Value} (h : R w S t d cs) (hs : ∀ b, S b → b < w.heap.size → S' b) : R w S' t d cs :=
  h.stay (fun _ _ _ => rfl) hs (Nat.le_refl _)

def KeepsR (f : Nat → Nat) (ob : Store) (μ : Mu) (ob' : Store) (μ' : Mu) (n : Nat) : Prop :=
  ∀ o, ob.get n = some o → ∃ o', ob'.get (f n) = some o' ∧ Like o o' ∧ μ'.addr (f n) = μ.addr n ∧ μ'.cap (f n) = μ.cap n

/-- plain data of sort p is read in the other place too, under the tag τ -/
def ReadsR (E : Env) (ob : Store) (μ : Mu) (E' : Env) (ob' : Store) (μ' : Mu) (w : World) (p : Bool → Ty → Bool) (τ : Bool → Ty → Bool) : Prop :=
  ∀ g (t : Ty), p g t = true → ∀ (d : t.D) cs, R w (Sb E ob μ g) t d cs → R w (Sb E' ob' μ' (τ g t)) t d cs

theorem CR.rn {f : Nat → Nat} {p τ : Bool → Ty → Bool} (hv : ReadsR E ob μ E' ob' μ' w p τ) :
    {x : AV} → {T : Ty} → {cs : List Value} → (∀ n ∈ x.names, KeepsR f ob μ ob' μ' n) → x.noPr = true → x.allv p = true → CR E ob μ w x T cs → CR E' ob' μ' w (x.rn f τ) T cs
  | .v g t d, T, cs, _, _, hp, h => by
    simp only [AV.rn, AV.allv, CR] at *
    obtain ⟨rfl, h⟩ := h
    exact ⟨rfl, hv g t hp d cs h⟩
  | .sl n, _, _, hk, _, _, h => by
    simp only [AV.rn, CR] at h ⊢
    obtain ⟨g, t, l, ho, hT, rfl⟩ := h
    obtain ⟨o', ho', hl, ha, hc⟩ := hk n (by simp [AV.names]) _ ho
    cases o' with
    | box => exact hl.elim
    | arr g' t' l' =>
      obtain ⟨rfl, hlen⟩ := hl
      exact ⟨g', t, l', ho', hT, by rw [ha, hc, hlen]⟩
  | .sub n off len, _, _, hk, _, _, h => by
    simp only [AV.rn, CR] at h ⊢
    obtain ⟨g, t, l, o, c, ho, hT, h1, h2, h3, h4, rfl⟩ := h
    obtain ⟨o', ho', hl, ha, hc⟩ := hk n (by simp [AV.names]) _ ho
    cases o' with
    | box => exact hl.elim
    | arr g' t' l' =>
      obtain ⟨rfl, hlen⟩ := hl
      exact ⟨g', t, l', o, c, ho', hT, by omega, h2, by rw [ha]; exact h3, by rw [ha]; exact h4, by rw [ha]⟩
  | .bs n q, _, _, hk, _, _, h => by
    simp only [AV.rn, CR] at h ⊢
    obtain ⟨T', x, o, k, t, y, ho, hp, hy, hT, rfl⟩ := h
    obtain ⟨o', ho', hl, ha, hc⟩ := hk n (by simp [AV.names]) _ ho
    cases o' with
    | arr => exact hl.elim
    | box T'' x' => obtain rfl : T' = T'' := hl; exact ⟨T', x', o, k, t, y, ho', hp, by rw [ha]; exact hy, hT, rfl⟩
  | .pe n i q, _, _, hk, _, _, h => by
    simp only [AV.rn, CR] at h ⊢
    obtain ⟨g, t, l, o, t', x, ho, hi, hp, hx, rfl, rfl⟩ := h
    obtain ⟨o', ho', hl, ha, hc⟩ := hk n (by simp [AV.names]) _ ho
    cases o' with
    | box => exact hl.elim
    | arr g' t'' l' =>
      obtain ⟨rfl, hlen⟩ := hl
      exact ⟨g', t, l', o, t', x, ho', by omega, hp, by rw [ha]; exact hx, rfl, rfl⟩
  | .pb n q, _, _, hk, _, _, h => by
    simp only [AV.rn, CR] at h ⊢
    obtain ⟨T', a, o, t', x, ho, hp, hx, rfl, rfl⟩ := h
    obtain ⟨o', ho', hl, ha, hc⟩ := hk n (by simp [AV.names]) _ ho
    cases o' with
    | arr => exact hl.elim
    | box T'' x' => obtain rfl : T' = T'' := hl; exact ⟨T', x', o, t', x, ho', hp, by rw [ha]; exact hx, rfl, rfl⟩
  | .pr .., _, _, _, hn, _, _ => by simp [AV.noPr] at hn
  | .nl _, _, _, _, _, _, h => by simpa only [AV.rn, CR] using h
  | .nils, _, _, _, _, _, h => by simpa only [AV.rn, CR] using h
  | .clo g ns, _, _, hk, _, _, h => by
    simp only [AV.rn, CR] at h ⊢
    obtain ⟨rfl, rfl, hn⟩ := h
    have key : ∀ n ∈ ns, μ'.addr (f n) = μ.addr n ∧ ∃ T' a x, ob'.get (f n) = some (.box T' a) ∧ μ'.addr (f n) = some x ∧ x.spot = none := by
      intro n hmem
      obtain ⟨T', a, x, ho, hx, hs⟩ := hn n hmem
      obtain ⟨o', ho', hl, ha, hc⟩ := hk n (by simpa [AV.names] using hmem) _ ho
      cases o' with
      | arr => exact hl.elim
      | box T'' x' => exact ⟨ha, T'', x', x, ho', by rw [ha]; exact hx, hs⟩
    refine ⟨rfl, ?_, fun m hmem => ?_⟩
    · rw [List.map_map]
      congr 3
      exact List.map_congr_left fun n hmem => by simp only [Function.comp]; rw [(key n hmem).1]
    · obtain ⟨n, hn', rfl⟩ := List.mem_map.1 hmem
      exact (key n hn').2
  | .nil, _, _, _, _, _, h => by simpa only [AV.rn, CR] using h
  | .cons h t, _, _, hk, hn, hp, hh => by
    simp only [AV.rn, CR, AV.noPr, AV.allv, Bool.and_eq_true] at hh hn hp ⊢
    obtain ⟨a, b, rfl, h1, h2⟩ := hh
    exact ⟨a, b, rfl, CR.rn hv (fun n hn => hk n (by simp [AV.names, hn])) hn.1 hp.1 h1, CR.rn hv (fun n hn => hk n (by simp [AV.names, hn])) hn.2 hp.2 h2⟩
  | .ag l, _, _, hk, hn, hp, h => by
    simp only [AV.rn, CR, AV.noPr, AV.allv] at h hn hp ⊢
    exact ⟨h.1, CR.rn hv (fun n hn => hk n (by simpa [AV.names] using hn)) hn hp h.2⟩
  | .tup _, _, _, _, _, _, h => by simp only [CR] at h
  | .dead, _, _, _, _, _, h => by simpa only [AV.rn, CR] using h

theorem SR.rn {f : Nat → Nat} {p τ : Bool → Ty → Bool} (hv : ReadsR E ob μ E' ob' μ' w p τ) {x : AV} {v : Value}
    (hk : ∀ n ∈ x.names, KeepsR f ob μ ob' μ' n) (hn : x.noPr = true) (hp : x.allv p = true) (h : SR E ob μ w x v) : SR E' ob' μ' w (x.rn f τ) v :=
  let ⟨T, h1, h2⟩ := h; ⟨T, h1.rn hv hk hn hp, h2⟩
theorem SRd.rn {f : Nat → Nat} {p τ : Bool → Ty → Bool} (hv : ReadsR E ob μ E' ob' μ' w p τ) {x : AV} {v : Value}
    (hk : ∀ n ∈ x.names, KeepsR f ob μ ob' μ' n) (hn : x.noPr = true) (hp : x.allv p = true) (h : SRd E ob μ w x v) : SRd E' ob' μ' w (x.rn f τ) v := by
  rcases h with rfl | h
  · exact .inl rfl
  · exact .inr (h.rn hv hk hn hp)
theorem TR.rn {f : Nat → Nat} {p τ : Bool → Ty → Bool} (hv : ReadsR E ob μ E' ob' μ' w p τ) :
    {l : AV} → {vs : List Value} → (∀ n ∈ l.names, KeepsR f ob μ ob' μ' n) → l.noPr = true → l.allv p = true → TR E ob μ w l vs → TR E' ob' μ' w (l.rn f τ) vs
  | .nil, [], _, _, _, h => h
  | .cons h t, v :: vs, hk, hn, hp, hh => by
    simp only [TR, AV.rn, AV.noPr, AV.allv, Bool.and_eq_true] at hh hn hp ⊢
    exact ⟨hh.1.rn hv (fun n hn => hk n (by simp [AV.names, hn])) hn.1 hp.1, TR.rn hv (fun n hn => hk n (by simp [AV.names, hn])) hn.2 hp.2 hh.2⟩
  | .nil, _ :: _, _, _, _, h => by simp [TR] at h
  | .cons .., [], _, _, _, h => by simp [TR] at h
  | .v .., _, _, _, _, h | .sl .., _, _, _, _, h | .sub .., _, _, _, _, h | .bs .., _, _, _, _, h | .pe .., _, _, _, _, h | .pb .., _, _, _, _, h | .pr .., _, _, _, _, h | .nl .., _, _, _, _, h
  | .nils, _, _, _, _, h | .clo .., _, _, _, _, h | .ag .., _, _, _, _, h | .tup .., _, _, _, _, h | .dead, _, _, _, _, h => by simp [TR] at h
theorem VR.rn {f : Nat → Nat} {p τ : Bool → Ty → Bool} (hv : ReadsR E ob μ E' ob' μ' w p τ) {x : AV} {v : Value}
    (hk : ∀ n ∈ x.names, KeepsR f ob μ ob' μ' n) (hn : x.noPr = true) (hp : x.allv p = true) (h : VR E ob μ w x v) : VR E' ob' μ' w (x.rn f τ) v := by
  cases x with
  | dead => trivial
  | tup l => obtain ⟨vs, h1, h2⟩ := h; exact ⟨vs, h1, h2.rn hv (by simpa [AV.names] using hk) (by simpa [AV.noPr] using hn) (by simpa [AV.allv] using hp)⟩
  | _ => exact SR.rn hv hk hn hp h

theorem ObjR.rn {f : Nat → Nat} {p τ : Bool → Ty → Bool} (hv : ReadsR E ob μ E' ob' μ' w p τ) {n n' : Nat} {o : Obj}
    (hk : ∀ k ∈ o.names, KeepsR f ob μ ob' μ' k) (hn : o.noPr = true) (hp : o.allv p = true) (ha : μ'.addr n' = μ.addr n) (hc : μ'.cap n' = μ.cap n)
    (h : ObjR E ob μ w n o) : ObjR E' ob' μ' w n' (o.rn f τ) := by
  cases o with
  | arr g t l =>
    simp only [ObjR, Obj.rn] at h ⊢
    obtain ⟨h1, h2, h3, h4⟩ := h
    refine ⟨by rw [hc]; exact h1, h2, by rw [ha, hc]; exact h3, fun x hx => ?_⟩
    rw [ha] at hx
    obtain ⟨h5, h6, h7⟩ := h4 x hx
    refine ⟨h5, by rw [hc]; exact h6, fun i hi => ?_⟩
    obtain ⟨es, he, hce⟩ := h7 i hi
    exact ⟨es, hv g t hp _ _ he, hce⟩
  | box T a =>
    simp only [ObjR, Obj.rn] at h ⊢
    obtain ⟨x, cs, h1, h2, h3, h4, h5⟩ := h
    exact ⟨x, cs, by rw [ha]; exact h1, h2, h3.rn hv hk hn hp, h4, h5⟩

/-! ### what is lent as plain data -/

theorem plain_CR :
    {x : AV} → {k : Bool → (t : Ty) → t.D → Option Rr} → plain ob x k = some r →
    ∃ g t d, k g t d = some r ∧ ∀ {E : Env} {μ : Mu} {w : World} {S : Nat → Prop}, (∀ g b, Sb E ob μ g b → b < w.heap.size → S b) → Rel E ob μ w →
      (∀ n ∈ x.names, ∀ b, PrivN ob μ n b → b < w.heap.size → S b) → ∀ {T : Ty} {cs : List Value}, CR E ob μ w x T cs → T = t ∧ R w S t d cs
  | .v g t d, k, h => by
    simp only [plain] at h
    refine ⟨g, t, d, h, fun {E μ w S} hS hR hn T cs hc => ?_⟩
    simp only [CR] at hc
    exact ⟨hc.1.symm, hc.2.sub fun b hb hz => hS g b hb hz⟩
  | .sl n, k, h => by
    simp only [plain] at h
    split at h
    · rename_i g t l ho
      refine ⟨g, .sl t, l, h, fun {E μ w S} hS hR hn T cs hc => ?_⟩
      simp only [CR] at hc
      obtain ⟨g', t', l', ho', rfl, rfl⟩ := hc
      rw [ho] at ho'
      simp only [Option.some.injEq, Obj.arr.injEq] at ho'
      obtain ⟨rfl, rfl, ho'⟩ := ho'
      obtain rfl := eq_of_heq ho'
      obtain ⟨b1, b2, b3, b4⟩ := objs_arr hR ho
      refine ⟨rfl, ?_⟩
      simp only [R]
      refine ⟨_, _, rfl, b1, b2, b3, fun x hx _ => ?_⟩
      obtain ⟨s1, s2, s3⟩ := b4 x hx
      have hz := (hR.own n _ x ho hx).1
      refine ⟨s1, hn n (by simp [AV.names]) _ ⟨_, x, ho, hx, rfl⟩ hz, hz, fun i hi => ?_⟩
      obtain ⟨es, e1, e2⟩ := s3 i hi
      exact ⟨es, e1.sub fun b hb hz => hS g b hb hz, e2⟩
    · cases h
  | .sub n off len, k, h => by
    simp only [plain] at h
    split at h
    · rename_i g t l ho
      refine ⟨g, .sl t, _, h, fun {E μ w S} hS hR hn T cs hc => ?_⟩
      simp only [CR] at hc
      obtain ⟨g', t', l', o, cap, ho', rfl, h1, h2, h3, h4, rfl⟩ := hc
      rw [ho] at ho'
      simp only [Option.some.injEq, Obj.arr.injEq] at ho'
      obtain ⟨rfl, rfl, ho'⟩ := ho'
      obtain rfl := eq_of_heq ho'
      obtain ⟨b1, b2, b3, b4⟩ := objs_arr hR ho
      refine ⟨rfl, ?_⟩
      have hlen : ((l.drop off).take len).length = len := by simp; omega
      simp only [R]
      refine ⟨_, cap, by rw [hlen], by rw [hlen]; exact h2, by rw [hlen]; omega, fun hh => h3 (by simpa using hh), fun y hy _ => ?_⟩
      cases ha : μ.addr n with
      | none => simp [ha] at hy
      | some x =>
        simp only [ha, Option.map_some, Option.some.injEq] at hy
        subst hy
        obtain ⟨s1, s2, s3⟩ := b4 x ha
        have hz := (hR.own n _ x ho ha).1
        refine ⟨rfl, hn n (by simp [AV.names]) _ ⟨_, x, ho, ha, rfl⟩ hz, hz, fun i hi => ?_⟩
        rw [hlen] at hi
        obtain ⟨es, e1, e2⟩ := s3 (off + i) (by omega)
        refine ⟨es, by simpa [List.getElem_take, List.getElem_drop] using e1.sub fun b hb hz => hS g b hb hz, ?_⟩
        rw [h4 (by omega) x ha, Nat.add_assoc, ← Nat.add_mul]
        exact e2
    · cases h
  | .ag l, k, h => by
    simp only [plain] at h
    obtain ⟨g, t, d, h1, h2⟩ := plain_CR h
    exact ⟨g, t, d, h1, fun hS hR hn _ _ hc => by simp only [CR] at hc; exact h2 hS hR (by simpa [AV.names] using hn) hc.2⟩
  | .nil, k, h => by
    simp only [plain] at h
    exact ⟨_, _, _, h, fun _ _ _ _ _ hc => by simp only [CR] at hc; simp only [R]; exact hc⟩
  | .cons a b, k, h => by
    simp only [plain] at h
    obtain ⟨g1, t1, d1, h1, h2⟩ := plain_CR h
    obtain ⟨g2, t2, d2, h3, h4⟩ := plain_CR h1
    refine ⟨_, _, _, h3, fun {E μ w S} hS hR hn T cs hc => ?_⟩
    simp only [CR] at hc
    obtain ⟨a', b', rfl, c1, c2⟩ := hc
    obtain ⟨rfl, e1⟩ := h2 hS hR (fun n hm => hn n (by simp [AV.names, hm])) c1
    obtain ⟨rfl, e2⟩ := h4 hS hR (fun n hm => hn n (by simp [AV.names, hm])) c2
    refine ⟨rfl, ?_⟩
    simp only [R]
    exact ⟨e1, e2⟩
  | .bs n p, k, h => by
    simp only [plain] at h
    split at h
    · rename_i T0 g t0 d0 ho
      obtain ⟨t', d', o, h1, h2, h3, h4⟩ := gets_sound h
      split at h1
      · rename_i m t'' l
        split at h1
        · rename_i hm
          refine ⟨g, .sl t'', l, h1, fun {E μ w S} hS hR hn T cs hc => ?_⟩
          simp only [CR] at hc
          obtain ⟨T1, x1, o1, m1, t2, y1, b1, b2, b3, rfl, rfl⟩ := hc
          rw [ho] at b1
          simp only [Option.some.injEq, Obj.box.injEq] at b1
          obtain ⟨rfl, rfl⟩ := b1
          obtain ⟨y', cs, d1, d2, d3, d4, d5⟩ := hR.objs n _ ho
          rw [b3] at d1
          obtain rfl := Option.some.inj d1
          simp only [CR] at d3
          obtain ⟨rfl, d3⟩ := d3
          rw [h2] at b2
          simp only [Option.some.injEq, Prod.mk.injEq, Ty.arr.injEq] at b2
          obtain ⟨rfl, rfl, rfl⟩ := b2
          have hr := h4 d3
          simp only [R] at hr
          obtain ⟨hl, hcl, hel⟩ := hr
          have hz := (hR.own n _ _ ho b3).1
          refine ⟨rfl, ?_⟩
          simp only [R]
          refine ⟨_, m, by rw [hl], by rw [hl]; exact Nat.le_refl _, by rw [hl]; exact hm, (fun ha => by cases ha), fun y hy _ => ?_⟩
          simp only [Option.some.injEq] at hy
          subst hy
          refine ⟨rfl, hn n (by simp [AV.names]) _ ⟨_, _, ho, b3, rfl⟩ hz, hz, fun i hi => ⟨_, (hel i hi).sub fun b hb hz => hS g b hb hz, ?_⟩⟩
          exact (d4.sub (o := o) (s := (Ty.arr m t'').size)).sub
        · cases h1
      · cases h1
    · cases h
  | .pe .., k, h | .pb .., k, h | .pr .., k, h | .nl .., k, h | .nils, k, h | .clo .., k, h | .tup .., k, h | .dead, k, h => by
    simp [plain] at h

end
end Go.Eng

/- The engine, part 26: what is lent to a call. -/
namespace Go.Eng

/-- the activation of a callee: the objects of the store are lent to it -/
def callEnv (w : World) (ob : Store) (μ : Mu) (A : Nat → Prop) : Env where
  w0 := w
  X := fun j b => PrivN ob μ j b
  A := A
  B := fun j => match ob.get j, μ.addr j with
    | some (.box T _), some x => some (x, μ.cap j, T)
    | _, _ => none

inductive ArgsR (E : Env) (ob : Store) (μ : Mu) (w : World) : List AV → List Value → Prop where
  | nil : ArgsR E ob μ w [] []
  | cons {x : AV} {v : Value} {l : List AV} {vs : List Value} : VR E ob μ w x v → ArgsR E ob μ w l vs → ArgsR E ob μ w (x :: l) (v :: vs)

/-- a callee's contract holds of a function of the program -/
def Sound (P : Program) (f : FuncId) (G : Callee) : Prop :=
  ∀ {Rr : Type} (n : Nat) (args : List AV) (ob : Store) (k : AV → Store → Option Rr) (r : Rr), G Rr n args ob k = some r →
    ∃ x ob', k x ob' = some r ∧ ∀ (w : World) (μ : Mu) (A : Nat → Prop) (vs : Array Value), Rel (callEnv w ob μ A) ob μ w → ArgsR (callEnv w ob μ A) ob μ w args vs.toList →
      Calls P f vs w fun e w' => ∃ v μ', e = .returned v ∧ Rel (callEnv w ob μ A) ob' μ' w' ∧ VR (callEnv w ob μ A) ob' μ' w' x v

section
variable {P : Program} {C : Ctx} {Rr : Type} {r : Rr} {E E' : Env} {ob ob' : Store} {μ μ' : Mu} {w w' : World}

theorem nodupB_iff : ∀ {L : List Nat}, nodupB L = true → L.Nodup
  | [], _ => List.nodup_nil
  | n :: r, h => by
    simp only [nodupB, Bool.and_eq_true, Bool.not_eq_true', List.contains_eq_mem, decide_eq_false_iff_not] at h
    exact List.nodup_cons.2 ⟨h.1, nodupB_iff h.2⟩

structure Closed (ob : Store) (L : List Nat) : Prop where
  nodup : L.Nodup
  there : ∀ n ∈ L, ∃ o, ob.get n = some o
  names : ∀ n ∈ L, ∀ o, ob.get n = some o → ∀ m ∈ o.names, m ∈ L
theorem closedB_iff {L : List Nat} (h : closedB ob L = true) : Closed ob L := by
  simp only [closedB, Bool.and_eq_true, List.all_eq_true] at h
  refine ⟨nodupB_iff h.1, fun n hn => ?_, fun n hn o ho m hm => ?_⟩
  · have := h.2 n hn
    cases hg : ob.get n with
    | none => simp [hg] at this
    | some o => exact ⟨o, rfl⟩
  · have := h.2 n hn
    rw [ho] at this
    simp only [List.all_eq_true, List.contains_eq_mem, decide_eq_true_eq] at this
    exact this m hm

theorem idxOf_lt {L : List Nat} {n : Nat} (h : n ∈ L) : idxOf L n < L.length := by
  unfold idxOf
  exact List.findIdx_lt_length_of_exists ⟨n, h, by simp⟩
theorem idxOf_get {L : List Nat} {n : Nat} (h : n ∈ L) : L[idxOf L n]? = some n := by
  have hl := idxOf_lt h
  rw [List.getElem?_eq_getElem hl]
  have h2 : decide (L[idxOf L n] = n) = true := List.findIdx_getElem (w := hl)
  simpa using h2
theorem getElem?_inj_nodup : ∀ {L : List Nat} {i j n : Nat}, L.Nodup → L[i]? = some n → L[j]? = some n → i = j
  | [], i, _, _, _, h, _ => by simp at h
  | a :: l, i, j, n, hn, h1, h2 => by
    have hn := List.nodup_cons.1 hn
    cases i with
    | zero =>
      cases j with
      | zero => rfl
      | succ j => simp at h1 h2; subst h1; exact absurd (List.mem_of_getElem? h2) hn.1
    | succ i =>
      cases j with
      | zero => simp at h1 h2; subst h2; exact absurd (List.mem_of_getElem? h1) hn.1
      | succ j => simp at h1 h2; rw [getElem?_inj_nodup hn.2 h1 h2]
theorem idxOf_of {L : List Nat} {n j : Nat} (hn : L.Nodup) (h : L[j]? = some n) : idxOf L n = j :=
  getElem?_inj_nodup hn (idxOf_get (List.mem_of_getElem? h)) h

theorem packS_get {f : Nat → Nat} {τ : Bool → Ty → Bool} : ∀ (L : List Nat) (i j : Nat), (∀ n ∈ L, ∃ o, ob.get n = some o) →
    (packS ob f τ i L).get j = if i ≤ j then ((L[j - i]?).bind ob.get).map (Obj.rn f τ) else none
  | [], i, j, _ => by simp [packS, Store.get]
  | n :: r, i, j, h => by
    obtain ⟨o, ho⟩ := h n (by simp)
    simp only [packS, ho, Store.get]
    by_cases hj : j = i
    · subst hj; simp [ho]
    · rw [if_neg hj, packS_get r (i + 1) j (fun m hm => h m (by simp [hm]))]
      by_cases hij : i ≤ j
      · rw [if_pos (by omega), if_pos hij, show j - i = (j - (i + 1)) + 1 by omega, List.getElem?_cons_succ]
      · rw [if_neg (by omega), if_neg hij]
theorem packS_get0 {f : Nat → Nat} {τ : Bool → Ty → Bool} {L : List Nat} (h : ∀ n ∈ L, ∃ o, ob.get n = some o) (j : Nat) :
    (packS ob f τ 0 L).get j = ((L[j]?).bind ob.get).map (Obj.rn f τ) := by
  rw [packS_get L 0 j h]; simp

def lentMu (L : List Nat) (μ : Mu) : Mu := { addr := fun j => (L[j]?).bind μ.addr, cap := fun j => ((L[j]?).map μ.cap).getD 0 }
abbrev lentOb (L : List Nat) (ob : Store) : Store := packS ob (idxOf L) handed 0 L

theorem Like.rn (o : Obj) (f : Nat → Nat) (τ : Bool → Ty → Bool) : Like o (o.rn f τ) := by cases o <;> simp [Like, Obj.rn]

theorem lent_priv {L : List Nat} (hL : Closed ob L) {j b : Nat} : PrivN (lentOb L ob) (lentMu L μ) j b → ∃ n, L[j]? = some n ∧ PrivN ob μ n b := by
  rintro ⟨o, x, h1, h2, h3⟩
  rw [packS_get0 hL.there] at h1
  cases hg : L[j]? with
  | none => simp [hg] at h1
  | some n =>
    simp only [lentMu, hg, Option.bind_some] at h1 h2
    cases ho : ob.get n with
    | none => simp [ho] at h1
    | some o0 => exact ⟨n, rfl, o0, x, ho, h2, h3⟩
theorem lent_priv' {L : List Nat} (hL : Closed ob L) {j n b : Nat} (hj : L[j]? = some n) : PrivN ob μ n b → PrivN (lentOb L ob) (lentMu L μ) j b := by
  rintro ⟨o, x, h1, h2, h3⟩
  exact ⟨o.rn (idxOf L) handed, x, by rw [packS_get0 hL.there, hj]; simp [h1], by simp [lentMu, hj, h2], h3⟩

theorem lent_keeps {L : List Nat} (hL : Closed ob L) {n : Nat} (hn : n ∈ L) : KeepsR (idxOf L) ob μ (lentOb L ob) (lentMu L μ) n := by
  intro o ho
  exact ⟨o.rn (idxOf L) handed, by rw [packS_get0 hL.there, idxOf_get hn]; simp [ho], Like.rn _ _ _, by simp [lentMu, idxOf_get hn], by simp [lentMu, idxOf_get hn]⟩

theorem lent_sb {L : List Nat} (hL : Closed ob L) {A : Nat → Prop} {b : Nat} (h1 : ∀ n ∈ L, ¬ PrivN ob μ n b) (h2 : b < w.heap.size → A b) :
    Sb (callEnv w (lentOb L ob) (lentMu L μ) A) (lentOb L ob) (lentMu L μ) false b := by
  refine ⟨fun ⟨j, o, x, hp⟩ => ?_, fun ⟨j, hp⟩ => ?_, fun hb => ⟨rfl, h2 hb⟩⟩
  · obtain ⟨n, h3, h4⟩ := lent_priv hL ⟨o, x, hp⟩; exact h1 n (List.mem_of_getElem? h3) h4
  · obtain ⟨n, h3, h4⟩ := lent_priv hL hp; exact h1 n (List.mem_of_getElem? h3) h4

theorem lent_reads {L : List Nat} (hL : Closed ob L) {A : Nat → Prop} (hA : ∀ b, Sb E ob μ false b → A b) :
    ReadsR E ob μ (callEnv w (lentOb L ob) (lentMu L μ) A) (lentOb L ob) (lentMu L μ) w (fun _ _ => true) handed := by
  intro g t _ d cs h
  by_cases hf : t.flat = true
  · exact h.ofFlat hf
  · have : handed g t = false := by simp [handed, hf]
    rw [this]
    exact h.sub fun b hb _ => lent_sb hL (fun n _ hp => hb.1 hp.priv) fun _ => hA b hb.weak

theorem AV.allv_true : (x : AV) → x.allv (fun _ _ => true) = true
  | .cons h t => by simp [AV.allv, AV.allv_true h, AV.allv_true t]
  | .ag l | .tup l => by simp [AV.allv, AV.allv_true l]
  | .v .. | .pr .. | .sl _ | .sub .. | .bs .. | .pe .. | .pb .. | .nl _ | .nils | .clo .. | .nil | .dead => by simp [AV.allv]
theorem Obj.allv_true (o : Obj) : o.allv (fun _ _ => true) = true := by cases o <;> simp [Obj.allv, AV.allv_true]

theorem Rel.call (hR : Rel E ob μ w) {L : List Nat} (hL : Closed ob L) (h64 : L.length ≤ 64) (hpr : ∀ n ∈ L, ∀ o, ob.get n = some o → o.noPr = true)
    {A : Nat → Prop} (hA : ∀ b, Sb E ob μ false b → A b) :
    Rel (callEnv w (lentOb L ob) (lentMu L μ) A) (lentOb L ob) (lentMu L μ) w where
  lent := fun j b h => by
    obtain ⟨n, h1, o, x, h2, h3, h4⟩ := lent_priv hL h
    have := (List.getElem?_eq_some_iff.1 h1).1
    exact ⟨h4 ▸ (hR.own n o x h2 h3).1, by omega⟩
  size := Nat.le_refl _
  io := Io.refl _
  frame := fun _ _ _ => rfl
  own := fun j o x h1 h2 => by
    obtain ⟨n, h3, o', y, h4, h5, h6⟩ := lent_priv hL (μ := μ) (b := x.block) ⟨o, x, h1, h2, rfl⟩
    exact ⟨h6 ▸ (hR.own n o' y h4 h5).1, fun _ => ⟨o, x, h1, h2, rfl⟩⟩
  inj := fun i j o o' x y h1 h2 h3 h4 hb => by
    obtain ⟨n, a1, o1, x1, a2, a3, a4⟩ := lent_priv hL (μ := μ) (b := x.block) ⟨o, x, h1, h3, rfl⟩
    obtain ⟨m, b1, o2, x2, b2, b3, b4⟩ := lent_priv hL (μ := μ) (b := y.block) ⟨o', y, h2, h4, rfl⟩
    obtain rfl := hR.inj n m o1 o2 x1 x2 a2 b2 a3 b3 (by rw [a4, b4, hb])
    exact getElem?_inj_nodup hL.nodup a1 b1
  objs := fun j o ho => by
    rw [packS_get0 hL.there] at ho
    cases hg : L[j]? with
    | none => simp [hg] at ho
    | some n =>
      obtain ⟨o0, h0⟩ := hL.there n (List.mem_of_getElem? hg)
      simp only [hg, Option.bind_some, h0, Option.map_some, Option.some.injEq] at ho
      subst ho
      exact (hR.objs n o0 h0).rn (lent_reads hL hA) (fun m hm => lent_keeps hL (hL.names n (List.mem_of_getElem? hg) o0 h0 m hm))
        (hpr n (List.mem_of_getElem? hg) o0 h0) o0.allv_true (by simp [lentMu, hg]) (by simp [lentMu, hg])
  keep := fun j x c T hB => by
    simp only [callEnv] at hB
    split at hB
    · rename_i T' a y h1 h2
      simp only [Option.some.injEq, Prod.mk.injEq] at hB
      obtain ⟨rfl, rfl, rfl⟩ := hB
      refine ⟨?_, fun o ho => ?_⟩
      · obtain ⟨n, h3, _⟩ := lent_priv hL (μ := μ) (b := y.block) ⟨_, y, h1, h2, rfl⟩
        have := (List.getElem?_eq_some_iff.1 h3).1
        omega
      · rw [h1] at ho
        obtain rfl := Option.some.inj ho
        exact ⟨⟨_, rfl⟩, h2, rfl⟩
    · cases hB

/-- which blocks the callee may read: with own arrays lent as plain data, all -/
def lentA (E : Env) (ob : Store) (μ : Mu) (lend : Bool) (b : Nat) : Prop := lend = true ∨ Sb E ob μ false b

theorem noPr_of_lends {b : Bool} {x : AV} (h : ¬ lendsP (b, x) = true) : x.noPr = true := by
  cases x <;> simp_all [lendsP, AV.lends, AV.noPr, AV.isSl]
theorem plain_tup {x : AV} {k : Bool → (t : Ty) → t.D → Option Rr} (h : plain ob x k = some r) : (∀ l, x ≠ .tup l) ∧ x ≠ .dead := by
  refine ⟨?_, ?_⟩
  · rintro l rfl; simp [plain] at h
  · rintro rfl; simp [plain] at h
theorem lends_SR {x : AV} {v : Value} (hx : VR E ob μ w x v) (h : (∀ l, x ≠ .tup l) ∧ x ≠ .dead) : SR E ob μ w x v := by
  cases x with
  | tup l => exact absurd rfl (h.1 l)
  | dead => exact absurd rfl h.2
  | _ => exact hx

theorem argsK_sound {L : List Nat} (hL : Closed ob L) :
    ∀ {args : List (Bool × AV)} {k : List AV → Option Rr}, argsK ob L args k = some r →
    ∃ xs, k xs = some r ∧ ∀ {E : Env} {μ : Mu} {w : World} {lend : Bool} {vs : List Value}, Rel E ob μ w → (args.any lendsP = true → lend = true) → ArgsR E ob μ w (args.map (·.2)) vs →
      ArgsR (callEnv w (lentOb L ob) (lentMu L μ) (lentA E ob μ lend)) (lentOb L ob) (lentMu L μ) w xs vs
  | [], k, h => ⟨[], h, fun _ _ ha => by cases ha; exact .nil⟩
  | (b, x) :: l, k, h => by
    simp only [argsK] at h
    split at h
    · rename_i hl
      split at h
      · cases h
      · rename_i hno
        obtain ⟨g, t, d, h1, h2⟩ := plain_CR h
        obtain ⟨xs, h3, h4⟩ := argsK_sound hL h1
        refine ⟨_, h3, fun {E μ w lend vs} hR hle ha => ?_⟩
        have hlend : lend = true := hle (by simp [hl])
        cases ha with
        | cons hx ha =>
          refine .cons ?_ (h4 hR (fun _ => hlend) ha)
          have hA : ∀ b, Sb E ob μ false b → lentA E ob μ lend b := fun b hb => .inr hb
          simp only [Bool.not_eq_true, List.any_eq_false, List.contains_eq_mem, decide_eq_true_eq] at hno
          have hsr : SR E ob μ w x _ := lends_SR hx (plain_tup h)
          obtain ⟨T, c1, c2⟩ := hsr
          obtain ⟨rfl, c3⟩ := h2 (S := Sb (callEnv w (lentOb L ob) (lentMu L μ) (lentA E ob μ lend)) (lentOb L ob) (lentMu L μ) false)
            (fun g b hb _ => lent_sb hL (fun n _ hp => hb.1 hp.priv) fun _ => .inl hlend) hR
            (fun n hn b hb _ => lent_sb hL (fun m hm hp => by
              obtain ⟨o1, x1, e1, e2, e3⟩ := hb
              obtain ⟨o2, x2, f1, f2, f3⟩ := hp
              obtain rfl := hR.inj n m o1 o2 x1 x2 e1 f1 e2 f2 (by rw [e3, f3])
              exact hno n hn hm) fun _ => .inl hlend) c1
          refine ⟨T, ⟨rfl, ?_⟩, c2⟩
          by_cases hf : T.flat = true
          · exact c3.ofFlat hf
          · have : handed g T = false := by simp [handed, hf]
            rw [this]; exact c3
    · rename_i hl
      split at h
      · rename_i hin
        obtain ⟨xs, h1, h2⟩ := argsK_sound hL h
        refine ⟨_, h1, fun {E μ w lend vs} hR hle ha => ?_⟩
        cases ha with
        | cons hx ha =>
          refine .cons ?_ (h2 hR (fun hh => hle (by simp [hh])) ha)
          simp only [List.all_eq_true, List.contains_eq_mem, decide_eq_true_eq] at hin
          exact hx.rn (lent_reads hL (A := lentA E ob μ lend) fun b hb => .inr hb) (fun n hn => lent_keeps hL (hin n hn)) (noPr_of_lends hl) x.allv_true
      · cases h

end
end Go.Eng

/- The engine, part 27: behind a call. -/
namespace Go.Eng

section
variable {P : Program} {C : Ctx} {Rr : Type} {r : Rr} {E E' : Env} {ob ob' : Store} {μ μ' : Mu} {w w' : World}

theorem inj_of_nodup_map {α β : Type} {f : α → β} : ∀ {l : List α}, (l.map f).Nodup → ∀ {x y}, x ∈ l → y ∈ l → f x = f y → x = y
  | [], _, _, _, h, _, _ => by simp at h
  | a :: l, hn, x, y, hx, hy, he => by
    simp only [List.map_cons] at hn
    have hn := List.nodup_cons.1 hn
    rcases List.mem_cons.1 hx with hx' | hx'
    · rcases List.mem_cons.1 hy with hy' | hy'
      · rw [hx', hy']
      · exact absurd (List.mem_map.2 ⟨y, hy', by rw [← he, hx']⟩) hn.1
    · rcases List.mem_cons.1 hy with hy' | hy'
      · exact absurd (List.mem_map.2 ⟨x, hx', by rw [he, hy']⟩) hn.1
      · exact inj_of_nodup_map hn.2 hx' hy' he

theorem Store.get_mem : ∀ {s : Store} {j : Nat} {o : Obj}, s.get j = some o → (j, o) ∈ s
  | (m, o') :: s, j, o, h => by
    simp only [Store.get] at h
    split at h
    · rename_i e; subst e; obtain rfl := Option.some.inj h; simp
    · exact List.mem_cons_of_mem _ (Store.get_mem h)
theorem Store.mem_get : ∀ {s : Store} {j : Nat} {o : Obj}, (j, o) ∈ s → ∃ o', s.get j = some o'
  | (m, o') :: s, j, o, h => by
    simp only [Store.get]
    split
    · exact ⟨_, rfl⟩
    · rename_i hne
      rcases List.mem_cons.1 h with h | h
      · simp at h; exact absurd h.1 hne
      · exact Store.mem_get h

section
variable {b : Nat → Nat} {s : Store}
theorem puts_get (st : Store) : ∀ (s : Store) (m : Nat), (st.puts b s).get m = match s.find? (fun p => decide (b p.1 = m)) with
    | some p => some (p.2.rn b same)
    | none => st.get m
  | [], m => by simp [Store.puts]
  | (j, o) :: s, m => by
    simp only [Store.puts, Store.get_put, List.find?_cons, puts_get st s m]
    by_cases h : m = b j
    · subst h; simp
    · have : decide (b j = m) = false := by simp; exact fun e => h e.symm
      simp [h, this]
theorem find_of (hn : (s.map fun p => b p.1).Nodup) {j : Nat} {o : Obj} (h : s.get j = some o) : s.find? (fun p => decide (b p.1 = b j)) = some (j, o) := by
  have hm := Store.get_mem h
  cases hf : s.find? (fun p => decide (b p.1 = b j)) with
  | none => have := List.find?_eq_none.1 hf _ hm; simp at this
  | some p =>
    have h1 := List.find?_some hf
    have h2 := List.mem_of_find?_eq_some hf
    rw [inj_of_nodup_map hn h2 hm (by simpa using h1)]
theorem of_find (hn : (s.map fun p => b p.1).Nodup) {m : Nat} {p : Nat × Obj} (h : s.find? (fun p => decide (b p.1 = m)) = some p) : s.get p.1 = some p.2 ∧ b p.1 = m ∧ p ∈ s := by
  have h1 := List.find?_some h
  have h2 := List.mem_of_find?_eq_some h
  obtain ⟨o', h3⟩ := Store.mem_get h2
  have h4 := inj_of_nodup_map hn h2 (Store.get_mem h3) rfl
  exact ⟨by rw [h3, h4], by simpa using h1, h2⟩
end

/-! ### many names are forgotten -/
theorem StR.kills {a : Act} : ∀ {K : List Nat} {st : St}, StR E st μ a w → StR E (st.kills K) μ a w
  | [], _, h => h
  | n :: K, _, h => StR.kills (K := K) (h.kill n)
theorem kills_sub : ∀ {K : List Nat} {st : St} {n : Nat} {o' : Obj}, (st.kills K).ob.get n = some o' → ∃ o, st.ob.get n = some o ∧ Like o o'
  | [], _, _, o', h => ⟨o', h, Like.refl _⟩
  | m :: K, st, n, o', h => by
    obtain ⟨o, h1, h2⟩ := kills_sub (K := K) (st := st.kill m) h
    obtain ⟨o0, h3, h4⟩ := (Sub.kill (ob := st.ob) m).back n o h1
    exact ⟨o0, h3, h4.trans h2⟩
theorem kills_sub' : ∀ {K : List Nat} {st : St} {n : Nat} {o : Obj}, st.ob.get n = some o → ∃ o', (st.kills K).ob.get n = some o' ∧ Like o o'
  | [], _, _, o, h => ⟨o, h, Like.refl _⟩
  | m :: K, st, n, o, h => by
    obtain ⟨o1, h1, h2, _⟩ := Keeps.kill (ob := st.ob) (μ := ⟨fun _ => none, fun _ => 0⟩) m n o h
    obtain ⟨o2, h3, h4⟩ := kills_sub' (K := K) (st := st.kill m) h1
    exact ⟨o2, h3, h2.trans h4⟩
theorem AV.names_of_kill {n : Nat} {x : AV} {m : Nat} (h : m ∈ (x.kill n).names) : m ∈ x.names ∧ m ≠ n := AV.kill_names n x m h
theorem kills_slots : ∀ {K : List Nat} {st : St} {x : AV} {m : Nat}, x ∈ (st.kills K).sl → m ∈ x.names → ∃ y ∈ st.sl, m ∈ y.names ∧ m ∉ K
  | [], _, x, _, h, hm => ⟨x, h, hm, by simp⟩
  | n :: K, st, x, m, h, hm => by
    obtain ⟨y, h1, h2, h3⟩ := kills_slots (K := K) (st := st.kill n) h hm
    simp only [St.kill, List.mem_map] at h1
    obtain ⟨z, hz, rfl⟩ := h1
    obtain ⟨h4, h5⟩ := AV.kill_names n z m h2
    exact ⟨z, hz, h4, by simp [h3, h5]⟩
theorem kills_objs : ∀ {K : List Nat} {st : St} {k : Nat} {o : Obj} {m : Nat}, (st.kills K).ob.get k = some o → m ∈ o.names → ∃ o', st.ob.get k = some o' ∧ m ∈ o'.names ∧ m ∉ K
  | [], _, _, o, _, h, hm => ⟨o, h, hm, by simp⟩
  | n :: K, st, k, o, m, h, hm => by
    obtain ⟨o1, h1, h2, h3⟩ := kills_objs (K := K) (st := st.kill n) h hm
    simp only [St.kill, Store.get_kill] at h1
    cases hg : st.ob.get k with
    | none => simp [hg] at h1
    | some o2 =>
      simp only [hg, Option.map_some, Option.some.injEq] at h1
      subst h1
      cases o2 with
      | arr => simp [Obj.kill, Obj.names] at h2
      | box T z =>
        simp only [Obj.kill, Obj.names] at h2 ⊢
        obtain ⟨h4, h5⟩ := AV.kill_names n z m h2
        exact ⟨_, rfl, h4, by simp [h3, h5]⟩

def backMu (b : Nat → Nat) (ob' : Store) (μ μ' : Mu) : Mu where
  addr := fun m => match ob'.find? (fun p => decide (b p.1 = m)) with
    | some p => μ'.addr p.1
    | none => μ.addr m
  cap := fun m => match ob'.find? (fun p => decide (b p.1 = m)) with
    | some p => μ'.cap p.1
    | none => μ.cap m

theorem call_back {st : St} {a : Act} (hS : StR E st μ a w) {L : List Nat} (hL : Closed st.ob L) {dst : Nat} {ob' : Store} {μ' : Mu} {w' : World} {x : AV} {v : Value} {lend : Bool}
    (hR' : Rel (callEnv w (lentOb L st.ob) (lentMu L μ) (lentA E st.ob μ lend)) ob' μ' w') (hx : VR (callEnv w (lentOb L st.ob) (lentMu L μ) (lentA E st.ob μ lend)) ob' μ' w' x v)
    (c1 : (ob'.map fun p => backName L dst p.1).Nodup) (c2 : ∀ p ∈ ob', (p.1 < L.length ∨ nm dst p.1 ∉ L) ∧ p.2.noPr = true ∧ ∀ m ∈ p.2.names, ∃ o, ob'.get m = some o)
    (c3 : x.noPr = true) (c4 : lend = true → x.allv unowned = true ∧ ∀ p ∈ ob', p.2.allv unowned = true) (c5 : ∀ n ∈ L, ∃ o, ob'.get (idxOf L n) = some o) :
    ∃ μf, StR E (st.back L dst ob') μf a w' ∧ VR E (st.back L dst ob').ob μf w' (x.rn (backName L dst) same) v := by
  let b := backName L dst
  let K := (L.filter fun m => isArr (st.ob.get m)) ++ ((ob'.map fun (j, _) => b j).filter fun m => !L.contains m && (st.ob.get m).isSome)
  let st1 := st.kills K
  let obf := st1.ob.puts b ob'
  let μf := backMu b ob' μ μ'
  have hst : st.back L dst ob' = { st1 with ob := obf } := rfl
  have hbj : ∀ {j n}, L[j]? = some n → b j = n := fun {j n} h => by
    have hj := (List.getElem?_eq_some_iff.1 h).1
    have h2 : L.getD j 0 = n := by simp only [List.getD, h, Option.getD_some]
    simp only [b, backName, if_pos hj, h2]
  have hS1 : StR E st1 μ a w := hS.kills
  have hR := hS1.rel
  have hw : w.heap.size ≤ w'.heap.size := hR'.size
  -- blocks that were lent
  have hlent : ∀ {j c}, PrivN (lentOb L st.ob) (lentMu L μ) j c → ∃ n, L[j]? = some n ∧ PrivN st1.ob μ n c := fun {j c} h => by
    obtain ⟨n, h1, o, y, h2, h3⟩ := lent_priv hL h
    obtain ⟨o', h4, _⟩ := kills_sub' (K := K) h2
    exact ⟨n, h1, o', y, h4, h3⟩
  have hpriv1 : ∀ {n c}, PrivN st1.ob μ n c → PrivN st.ob μ n c := fun {n c} ⟨o, y, h2, h3⟩ => by
    obtain ⟨o', h4, _⟩ := kills_sub h2; exact ⟨o', y, h4, h3⟩
  have hsb : ∀ {g c}, Sb E st.ob μ g c → Sb E st1.ob μ g c := fun {g c} h => ⟨fun ⟨n, o, y, h1, h2⟩ => h.1 (hpriv1 ⟨o, y, h1, h2⟩).priv, h.2⟩
  -- what stands under a name now
  have getf : ∀ m, obf.get m = match ob'.find? (fun p => decide (b p.1 = m)) with | some p => some (p.2.rn b same) | none => st1.ob.get m := puts_get st1.ob ob'
  have addrf : ∀ m, μf.addr m = match ob'.find? (fun p => decide (b p.1 = m)) with | some p => μ'.addr p.1 | none => μ.addr m := fun _ => rfl
  have capf : ∀ m, μf.cap m = match ob'.find? (fun p => decide (b p.1 = m)) with | some p => μ'.cap p.1 | none => μ.cap m := fun _ => rfl
  -- a name of L is among those that came back
  have hin : ∀ {n}, n ∈ L → ∃ o, ob'.find? (fun p => decide (b p.1 = n)) = some (idxOf L n, o) := fun {n} hn => by
    obtain ⟨o, ho⟩ := c5 n hn
    have := find_of c1 ho
    rw [show backName L dst (idxOf L n) = n from hbj (idxOf_get hn)] at this
    exact ⟨o, this⟩
  -- the private blocks now
  have privf : ∀ {c}, Priv obf μf c → Priv ob' μ' c ∨ ∃ n, n ∉ L ∧ PrivN st1.ob μ n c := fun {c} ⟨m, o, y, h1, h2, h3⟩ => by
    rw [getf] at h1
    rw [addrf] at h2
    cases hf : ob'.find? (fun p => decide (b p.1 = m)) with
    | some p =>
      rw [hf] at h1 h2
      exact .inl ⟨p.1, p.2, y, (of_find c1 hf).1, h2, h3⟩
    | none =>
      rw [hf] at h1 h2
      refine .inr ⟨m, fun hm => ?_, o, y, h1, h2, h3⟩
      obtain ⟨o', h4⟩ := hin hm
      rw [hf] at h4
      cases h4
  have oldOf : ∀ {c n}, PrivN st1.ob μ n c → c < w.heap.size := fun {c n} ⟨o, y, h1, h2, h3⟩ => h3 ▸ (hR.own n o y h1 h2).1
  have sbf : ∀ {g c}, c < w.heap.size → ¬ Priv ob' μ' c → Sb E st1.ob μ g c → Sb E obf μf g c := fun {g c} _ h2 h3 =>
    ⟨fun hp => by rcases privf hp with h | ⟨n, _, h⟩; exact h2 h; exact h3.1 h.priv, h3.2⟩
  have own' : ∀ {c}, c < w.heap.size → Priv ob' μ' c → ∃ j, PrivN (lentOb L st.ob) (lentMu L μ) j c := fun {c} hc ⟨j, o, y, h1, h2, h3⟩ =>
    ⟨j, h3 ▸ (hR'.own j o y h1 h2).2 (h3 ▸ hc)⟩
  have mv : Moves E st1.ob μ w E obf μf w' := {
    size := hw
    sb := fun g c hs hc => sbf hc (fun hp => by obtain ⟨j, h⟩ := own' hc hp; obtain ⟨n, _, h⟩ := hlent h; exact hs.1 h.priv) hs
    agree := fun c hs hc => hR'.frame c hc fun ⟨j, h⟩ => by obtain ⟨n, _, h⟩ := hlent h; exact hs.1 h.priv }
  -- reading what came back
  have hv : ReadsR (callEnv w (lentOb L st.ob) (lentMu L μ) (lentA E st.ob μ lend)) ob' μ' E obf μf w' (fun g t => !lend || unowned g t) same := by
    intro g t hp d cs h
    by_cases hf : t.flat = true
    · exact h.ofFlat hf
    · refine h.sub fun c hc _ => ?_
      obtain ⟨s1, s2, s3⟩ := hc
      by_cases hcw : c < w.heap.size
      · obtain ⟨e1, e2⟩ := s3 hcw
        subst e1
        have hl : lend = false := by cases hl : lend with | false => rfl | true => simp [hl, unowned, hf] at hp
        rcases e2 with e2 | e2
        · rw [hl] at e2; cases e2
        · exact sbf hcw s1 (hsb e2)
      · refine ⟨fun hp => ?_, fun ⟨n, hx⟩ => ?_, fun h => ?_⟩
        · rcases privf hp with h | ⟨n, _, h⟩
          · exact s1 h
          · exact hcw (oldOf h)
        · have := (hR.lent _ _ hx).1; have := hR.size; omega
        · have := hR.size; omega
  have kR : ∀ j, KeepsR b ob' μ' obf μf j := fun j o ho => by
    have h := find_of c1 ho
    exact ⟨o.rn b same, by rw [getf]; simp only [b, h], Like.rn _ _ _, by rw [addrf]; simp only [b, h], by rw [capf]; simp only [b, h]⟩
  have hall : ∀ p ∈ ob', p.2.allv (fun g t => !lend || unowned g t) = true := fun p hp => by
    cases hl : lend with
    | false => simpa using p.2.allv_true
    | true => simpa using (c4 hl).2 p hp
  have hallx : x.allv (fun g t => !lend || unowned g t) = true := by
    cases hl : lend with
    | false => simpa using x.allv_true
    | true => simpa using (c4 hl).1
  have boxb : ∀ {n T a0 p}, n ∈ L → st.ob.get n = some (.box T a0) → ob'.find? (fun p => decide (b p.1 = n)) = some p →
      ∃ a1, p.2 = .box T a1 ∧ μ'.addr p.1 = μ.addr n ∧ μ'.cap p.1 = μ.cap n := fun {n T a0 p} hnL h0 hf => by
    obtain ⟨o', h'⟩ := hin hnL
    obtain ⟨f1, f2, f3⟩ := of_find c1 hf
    rw [hf] at h'
    obtain rfl := Option.some.inj h'
    obtain ⟨y, cs, hy, _⟩ := hS.rel.objs n _ h0
    have hidx := idxOf_get hnL
    have hB : (callEnv w (lentOb L st.ob) (lentMu L μ) (lentA E st.ob μ lend)).B (idxOf L n) = some (y, μ.cap n, T) := by
      simp only [callEnv]
      rw [packS_get0 hL.there, hidx]
      simp [h0, Obj.rn, lentMu, hidx, hy]
    obtain ⟨_, k2⟩ := hR'.keep _ _ _ _ hB
    obtain ⟨⟨a1, hk⟩, k3, k4⟩ := k2 _ f1
    exact ⟨a1, hk, k3.trans hy.symm, k4⟩
  -- names that are still spoken of stand where they stood
  have kp : ∀ n, n ∉ K → Keeps st1.ob μ obf μf n := fun n hnK o ho => by
    obtain ⟨o0, h0, hlk⟩ := kills_sub ho
    cases hf : ob'.find? (fun p => decide (b p.1 = n)) with
    | none => exact ⟨o, by rw [getf, hf]; exact ho, Like.refl _, by rw [addrf, hf], by rw [capf, hf]⟩
    | some p =>
      obtain ⟨f1, f2, f3⟩ := of_find c1 hf
      have hnL : n ∈ L := by
        refine Classical.byContradiction fun hnL => hnK ?_
        refine List.mem_append_right _ (List.mem_filter.2 ⟨List.mem_map.2 ⟨p, f3, f2⟩, ?_⟩)
        simp [hnL, h0]
      have hna : isArr (st.ob.get n) = false := by
        cases hh : isArr (st.ob.get n) with
        | false => rfl
        | true => exact absurd (List.mem_append_left _ (List.mem_filter.2 ⟨hnL, hh⟩)) hnK
      rw [h0] at hna
      cases o0 with
      | arr => simp [isArr] at hna
      | box T a0 =>
        obtain ⟨a1, hk, k3, k4⟩ := boxb hnL h0 hf
        refine ⟨.box T (a1.rn b same), by rw [getf, hf]; simp only [hk]; rfl, ?_, by rw [addrf, hf]; exact k3, by rw [capf, hf]; exact k4⟩
        cases o with
        | arr => exact hlk.elim
        | box T' a' => exact hlk.symm
  refine ⟨μf, ⟨⟨fun n c h => hR.lent n c h, Nat.le_trans hR.size hw, hR.io.trans hR'.io, ?_, ?_, ?_, ?_, ?_⟩, ?_, hS1.defers⟩, ?_⟩
  · -- frame
    intro c hc hnl
    rw [hR'.frame c (Nat.lt_of_lt_of_le hc hR.size) ?_]
    · exact hR.frame c hc hnl
    · rintro ⟨j, h⟩
      obtain ⟨n, _, o, y, h1, h2, h3⟩ := hlent h
      exact hnl ⟨n, h3 ▸ (hR.own n o y h1 h2).2 (h3 ▸ hc)⟩
  · -- own
    intro m o y h1 h2
    rw [hst] at h1
    rw [getf] at h1
    rw [addrf] at h2
    cases hf : ob'.find? (fun p => decide (b p.1 = m)) with
    | none =>
      rw [hf] at h1 h2
      have := hR.own m o y h1 h2
      exact ⟨Nat.lt_of_lt_of_le this.1 hw, this.2⟩
    | some p =>
      rw [hf] at h1 h2
      obtain ⟨f1, f2, f3⟩ := of_find c1 hf
      have := hR'.own p.1 p.2 y f1 h2
      refine ⟨this.1, fun hb => ?_⟩
      obtain ⟨n, h3, o1, y1, h4, h5, h6⟩ := hlent (this.2 (Nat.lt_of_lt_of_le hb hR.size))
      have := (hR.own n o1 y1 h4 h5).2 (h6 ▸ hb)
      rw [h6] at this
      have hbn : m = n := f2.symm.trans (hbj h3)
      rw [hbn]; exact this
  · -- inj
    intro m n o o' y z h1 h2 h3 h4 hyz
    rw [hst] at h1 h2
    rw [getf] at h1 h2
    rw [addrf] at h3 h4
    have mixed : ∀ {m n : Nat} {o : Obj} {y z : Addr} {p : Nat × Obj}, ob'.find? (fun p => decide (b p.1 = m)) = some p → ob'.find? (fun p => decide (b p.1 = n)) = none → μ'.addr p.1 = some y →
        st1.ob.get n = some o → μ.addr n = some z → y.block = z.block → False := fun {m n o y z p} hf hg h3 h2 h4 hyz => by
      obtain ⟨f1, f2, f3⟩ := of_find c1 hf
      have hz := (hR.own n o z h2 h4).1
      obtain ⟨k, h5, o1, y1, h6, h7, h8⟩ := hlent ((hR'.own p.1 p.2 y f1 h3).2 (by rw [hyz]; exact hz))
      obtain rfl := hR.inj k n o1 o y1 z h6 h2 h7 h4 (by rw [h8, hyz])
      obtain ⟨o2, h9⟩ := hin (List.mem_of_getElem? h5)
      rw [hg] at h9; cases h9
    cases hf : ob'.find? (fun p => decide (b p.1 = m)) with
    | none =>
      cases hg : ob'.find? (fun p => decide (b p.1 = n)) with
      | none =>
        rw [hf] at h1 h3
        rw [hg] at h2 h4
        exact hR.inj m n o o' y z h1 h2 h3 h4 hyz
      | some q =>
        rw [hf] at h1 h3
        rw [hg] at h2 h4
        exact (mixed hg hf h4 h1 h3 hyz.symm).elim
    | some p =>
      cases hg : ob'.find? (fun p => decide (b p.1 = n)) with
      | none =>
        rw [hf] at h1 h3
        rw [hg] at h2 h4
        exact (mixed hf hg h3 h2 h4 hyz).elim
      | some q =>
        rw [hf] at h1 h3
        rw [hg] at h2 h4
        obtain ⟨f1, f2, f3⟩ := of_find c1 hf
        obtain ⟨g1, g2, g3⟩ := of_find c1 hg
        have := hR'.inj p.1 q.1 p.2 q.2 y z f1 g1 h3 h4 hyz
        rw [← f2, ← g2, this]
  · -- objs
    intro m o ho
    rw [hst] at ho ⊢
    rw [getf] at ho
    cases hf : ob'.find? (fun p => decide (b p.1 = m)) with
    | none =>
      rw [hf] at ho
      refine (hR.objs m o ho).move mv (fun k hk => ?_) (fun y hy => ?_) (by rw [addrf, hf]) (by rw [capf, hf])
      · obtain ⟨_, _, _, h⟩ := kills_objs ho hk
        exact kp k h
      · refine hR'.frame _ (hR.own m o y ho hy).1 fun ⟨j, h⟩ => ?_
        obtain ⟨n, h3, o1, y1, h4, h5, h6⟩ := hlent h
        obtain rfl := hR.inj n m o1 o y1 y h4 ho h5 hy h6
        obtain ⟨o2, h9⟩ := hin (List.mem_of_getElem? h3)
        rw [hf] at h9; cases h9
    | some p =>
      rw [hf] at ho
      obtain rfl := Option.some.inj ho
      obtain ⟨f1, f2, f3⟩ := of_find c1 hf
      exact (hR'.objs p.1 p.2 f1).rn hv (fun k _ => kR k) (c2 p f3).2.1 (hall p f3) (by rw [addrf, hf]) (by rw [capf, hf])
  · -- keep
    intro m y c T hB
    obtain ⟨k1, k2⟩ := hR.keep m y c T hB
    refine ⟨k1, fun o ho => ?_⟩
    rw [hst] at ho
    rw [getf] at ho
    rw [addrf, capf]
    cases hf : ob'.find? (fun p => decide (b p.1 = m)) with
    | none =>
      rw [hf] at ho
      exact k2 o ho
    | some p =>
      rw [hf] at ho
      obtain rfl := Option.some.inj ho
      obtain ⟨f1, f2', f3⟩ := of_find c1 hf
      have f2 : b p.1 = m := f2'
      have hp : p.1 < L.length := Classical.byContradiction fun hp => by
        have : b p.1 = nm dst p.1 := by simp only [b, backName, if_neg hp]
        have := nm_ge dst p.1
        omega
      have hm : L[p.1]? = some m := by
        rw [List.getElem?_eq_getElem hp]
        have := hbj (List.getElem?_eq_getElem hp)
        rw [← this, f2]
      have hmL := List.mem_of_getElem? hm
      obtain ⟨o0, h0⟩ := hL.there m hmL
      obtain ⟨o1, h1, hlk⟩ := kills_sub' (K := K) h0
      obtain ⟨⟨a1, ha1⟩, k3, k4⟩ := k2 o1 h1
      subst ha1
      cases o0 with
      | arr => exact hlk.elim
      | box T' a0 =>
        obtain rfl : T' = T := hlk
        obtain ⟨a2, e1, e2, e3⟩ := boxb hmL h0 hf
        exact ⟨⟨a2.rn b same, by rw [e1]; rfl⟩, e2.trans k3, e3.trans k4⟩
  · exact hS1.slots.move mv fun z hz n hn => by
      obtain ⟨_, _, _, h⟩ := kills_slots hz hn
      exact kp n h
  · exact hx.rn hv (fun k _ => kR k) c3 hallx

end
end Go.Eng

/- The engine, part 28: calls and the remaining operations. -/
namespace Go.Eng

structure CtxOK (P : Program) (C : Ctx) : Prop extends CtxT P C where
  ct : ∀ f G, C.CT f = some G → Sound P f G ∧ ∃ fn, P.funcs[f]? = some fn ∧ (fn.name == "runtime.NumGoroutine") = false ∧ fn.body.isNone = false

section
variable {P : Program} {C : Ctx} {Rr : Type} {r : Rr} {E E' : Env} {ob ob' : Store} {μ μ' : Mu} {w w' : World}

theorem withM_snd : ∀ (F : List (Option Ty)) (l : List AV), (withM F l).map (·.2) = l
  | _, [] => by cases ‹List (Option Ty)› <;> rfl
  | [], x :: l => by simp [withM, withM_snd [] l]
  | m :: F, x :: l => by simp [withM, withM_snd F l]

theorem VR.nils {v : Value} (h : VR E ob μ w .nils v) : v = .slice none 0 0 := by
  obtain ⟨T, h1, _, h3⟩ := h
  simp only [CR] at h1
  obtain ⟨⟨t, rfl⟩, h1⟩ := h1
  rw [h3 rfl] at h1
  simpa using h1

theorem ArgsR.len : ∀ {xs : List AV} {vs : List Value}, ArgsR E ob μ w xs vs → xs.length = vs.length
  | _, _, .nil => rfl
  | _, _, .cons _ h => by simp [h.len]
theorem ArgsR.get : ∀ {xs : List AV} {vs : List Value}, ArgsR E ob μ w xs vs → ∀ {i : Nat} (h : i < xs.length), VR E ob μ w xs[i] (vs.getD i undef)
  | _, _, .cons hx _, 0, _ => by simpa using hx
  | _, _, .cons _ ha, i + 1, hi => by simpa using ha.get (i := i) (by simpa using hi)
theorem ArgsR.mk : ∀ {xs : List AV} {vs : List Value}, xs.length = vs.length → (∀ i (h : i < xs.length), VR E ob μ w xs[i] (vs.getD i undef)) → ArgsR E ob μ w xs vs
  | [], [], _, _ => .nil
  | x :: xs, v :: vs, hl, h => .cons (h 0 (by simp)) (ArgsR.mk (by simpa using hl) fun i hi => h (i + 1) (by simpa using hi))
  | [], _ :: _, hl, _ => by simp at hl
  | _ :: _, [], hl, _ => by simp at hl
theorem ArgsR.set' : ∀ {xs : List AV} {vs : List Value} {i : Nat} {x : AV}, ArgsR E ob μ w xs vs → (i < xs.length → VR E ob μ w x (vs.getD i undef)) → ArgsR E ob μ w (xs.set i x) vs
  | _, _, _, _, .nil, _ => by simpa using .nil
  | _, _, 0, _, .cons _ ha, h => .cons (by simpa using h (by simp)) ha
  | _, _, i + 1, _, .cons hx ha, h => .cons hx (ha.set' fun hi => by simpa using h (by simpa using hi))

theorem slots_more {st : St} {a : Act} (hS : StR E st μ a w) {l : List AV} {vs : List Value} (ha : ArgsR E st.ob μ w l vs) :
    StR E { st with sl := st.sl ++ l } μ { a with tmps := a.tmps ++ vs.toArray } w := by
  refine ⟨hS.rel, ⟨?_, fun i hi => ?_⟩, hS.defers⟩
  · simp [hS.slots.1, ha.len]
  · simp only [List.length_append] at hi
    by_cases h : i < st.sl.length
    · have h1 := hS.slots.2 i h
      have h2 : i < a.tmps.size := by rw [← hS.slots.1]; exact h
      rw [List.getElem_append_left h]
      simpa [Array.getD, h2, show i < a.tmps.size + vs.length by omega, Array.getElem_append_left h2] using h1
    · have h2 : ¬ i < a.tmps.size := by rw [← hS.slots.1]; exact h
      have h3 : i - st.sl.length < l.length := by omega
      have h4 := ha.get h3
      rw [List.getElem_append_right (Nat.le_of_not_lt h)]
      have h5 : i - st.sl.length < vs.length := by rw [← ha.len]; exact h3
      have e : st.sl.length = a.tmps.size := hS.slots.1
      simp only [Array.getD, Array.size_append, List.size_toArray]
      rw [dif_pos (by omega)]
      simp only [Array.getInternal_eq_getElem]
      rw [Array.getElem_append_right (by omega)]
      have h6 : i - a.tmps.size < vs.length := by omega
      simpa [e, List.getD, List.getElem?_eq_getElem h6] using h4
theorem slots_less {st : St} {a : Act} {l : List Value} {n : Nat} (hn : n = a.tmps.size) (hS : StR E st μ { a with tmps := a.tmps ++ l.toArray } w) :
    StR E { st with sl := st.sl.take n } μ a w ∧ ArgsR E st.ob μ w (st.sl.drop n) l := by
  have e := hS.slots.1
  simp only [Array.size_append, List.size_toArray] at e
  refine ⟨⟨hS.rel, ⟨?_, fun i hi => ?_⟩, hS.defers⟩, ArgsR.mk (by simp [e, hn]) fun i hi => ?_⟩
  · simp [e, hn]
  · simp only [List.length_take] at hi
    have h1 := hS.slots.2 i (by omega)
    have h2 : i < a.tmps.size := by omega
    rw [List.getElem_take]
    simpa [Array.getD, h2, show i < a.tmps.size + l.length by omega, Array.getElem_append_left h2] using h1
  · simp only [List.length_drop] at hi
    have h1 := hS.slots.2 (n + i) (by omega)
    rw [List.getElem_drop]
    have h5 : i < l.length := by omega
    simp only [Array.getD, Array.size_append, List.size_toArray] at h1
    rw [dif_pos (by omega)] at h1
    simp only [Array.getInternal_eq_getElem] at h1
    rw [Array.getElem_append_right (by omega)] at h1
    simpa [hn, List.getD, List.getElem?_eq_getElem h5] using h1

theorem prepI_sound {F : List (Option Ty)} {d : Nat} : ∀ {i : Nat} {args : List AV} {st : St} {k : List AV → St → Option Rr}, prepI d i F args st k = some r →
    ∃ args' st', k args' st' = some r ∧ ∀ {E : Env} {μ : Mu} {a : Act} {w : World} {vs : List Value}, StR E st μ a w → ArgsR E st.ob μ w args vs →
      ∃ μ', StR E st' μ' a w ∧ ArgsR E st'.ob μ' w args' vs := by
  induction F with
  | nil => intro i args st k h; rw [prepI] at h; exact ⟨_, _, h, fun hS ha => ⟨_, hS, ha⟩⟩
  | cons m F ih =>
    intro i args st k h
    cases m with
    | none => rw [prepI] at h; exact ih h
    | some t =>
      rw [prepI] at h
      split at h
      · rename_i hnil
        obtain ⟨args', st', h1, h2⟩ := ih h
        refine ⟨_, _, h1, fun {E μ a w vs} hS ha => ?_⟩
        obtain ⟨μ1, h3, h4⟩ := new_none (slots_more hS ha) (nm_ge d (15 - i)) (t := t) true
        obtain ⟨h5, h6⟩ := slots_less hS.slots.1 h3
        refine h2 h5 (h6.set' fun hi => ?_)
        have h7 : i < args.length := by
          refine Classical.byContradiction fun hh => ?_
          simp [List.getD, List.getElem?_eq_none (Nat.le_of_not_lt hh)] at hnil
        have h8 := ha.get h7
        have h9 : args[i] = .nils := by simpa [List.getD, List.getElem?_eq_getElem h7] using hnil
        rw [h9] at h8
        rw [h8.nils]
        exact h4
      · exact ih h

theorem callK_sound (hC : CtxOK P C) {n : Nat} {st : St} {f : Nat} {args : List AV} {dst : Nat} {k : AV → St → Option Rr} (h : callK C n st f args dst k = some r) :
    ∃ x st', k x st' = some r ∧ (∃ fn, P.funcs[f]? = some fn ∧ (fn.name == "runtime.NumGoroutine") = false ∧ fn.body.isNone = false) ∧
      ∀ {E : Env} {μ : Mu} {a : Act} {w : World} {vs : Array Value}, StR E st μ a w → ArgsR E st.ob μ w args vs.toList →
        Calls P f vs w fun e w' => ∃ v μ', e = .returned v ∧ StR E st' μ' a w' ∧ VR E st'.ob μ' w' x v := by
  unfold callK at h
  split at h
  · cases h
  · rename_i G hG
    obtain ⟨hsound, hfn⟩ := hC.ct f G hG
    simp only at h
    split at h
    · rename_i hchk
      simp only [Bool.and_eq_true, decide_eq_true_eq, List.all_eq_true] at hchk
      obtain ⟨⟨hcl, h64⟩, hnp⟩ := hchk
      have hL := closedB_iff hcl
      obtain ⟨xs, h1, h2⟩ := argsK_sound hL h
      obtain ⟨x, ob', h3, h4⟩ := hsound _ _ _ _ _ h1
      split at h3
      · rename_i hchk2
        simp only [Bool.and_eq_true, Bool.or_eq_true, decide_eq_true_eq, List.all_eq_true, Bool.not_eq_true', List.contains_eq_mem, decide_eq_false_iff_not] at hchk2
        obtain ⟨⟨⟨⟨c1, c2⟩, c3⟩, c4⟩, c5⟩ := hchk2
        refine ⟨_, _, h3, hfn, fun {E μ a w vs} hS ha => ?_⟩
        rw [← withM_snd (C.LD f) args] at ha
        let lend := (withM (C.LD f) args).any lendsP
        have hR1 := hS.rel.call hL h64 (fun n hn o ho => by have := hnp n hn; simpa [ho] using this) (A := lentA E st.ob μ lend) fun b hb => .inr hb
        refine Calls.mono (h4 w _ _ vs hR1 (h2 hS.rel (fun hh => hh) ha)) ?_
        rintro e w' ⟨v, μ', rfl, hR', hx⟩
        have d2 : ∀ p ∈ ob', (p.1 < (reach st.ob 64 (lentNames (withM (C.LD f) args)) []).length ∨ nm dst p.1 ∉ reach st.ob 64 (lentNames (withM (C.LD f) args)) []) ∧ p.2.noPr = true ∧ ∀ m ∈ p.2.names, ∃ o, ob'.get m = some o := by
          intro p hp
          have := c2 p hp
          refine ⟨this.1.1, this.1.2, fun m hm => ?_⟩
          have h5 := this.2 m hm
          cases hg : ob'.get m with
          | none => simp [hg] at h5
          | some o => exact ⟨o, rfl⟩
        have d4 : lend = true → x.allv unowned = true ∧ ∀ p ∈ ob', p.2.allv unowned = true := by
          intro hl
          rcases c4 with c4 | c4
          · rw [show lend = (withM (C.LD f) args).any lendsP from rfl] at hl
            rw [hl] at c4; cases c4
          · exact c4
        have d5 : ∀ n ∈ reach st.ob 64 (lentNames (withM (C.LD f) args)) [], ∃ o, ob'.get (idxOf (reach st.ob 64 (lentNames (withM (C.LD f) args)) []) n) = some o := by
          intro n hn
          have h5 := c5 n hn
          cases hg : ob'.get (idxOf (reach st.ob 64 (lentNames (withM (C.LD f) args)) []) n) with
          | none => simp [hg] at h5
          | some o => exact ⟨o, rfl⟩
        obtain ⟨μf, f1, f2⟩ := call_back (dst := dst) hS hL hR' hx (nodupB_iff c1) d2 c3 d4 d5
        exact ⟨v, μf, rfl, f1, f2⟩
      · cases h3
    · cases h

theorem pickK_sound {c a b : AV} {k : AV → Option Rr} (h : pickK c a b k = some r) :
    ∃ z, k z = some r ∧ ∀ {E : Env} {ob : Store} {μ : Mu} {w : World} {v0 v1 v2 : Value}, VR E ob μ w c v0 → VR E ob μ w a v1 → VR E ob μ w b v2 →
      ∃ cc, v0 = .bool cc ∧ VR E ob μ w z (if cc = true then v1 else v2) := by
  unfold pickK at h
  split at h
  · rename_i g cc
    split at h
    · rename_i g1 x g2 y
      refine ⟨_, h, fun {E ob μ w v0 v1 v2} hc ha hb => ⟨cc, hc.bool, ?_⟩⟩
      rw [ha.bool, hb.bool]
      have hcc : ∀ cc : Bool, VR E ob μ w (.v true .bool (if cc = true then x else y)) (if cc = true then Value.bool x else .bool y) := by
        intro cc; cases cc <;> exact VR.mkBool
      exact hcc cc
    · rename_i g1 j x g2 j' y
      split at h
      · rename_i hj; subst hj
        refine ⟨_, h, fun {E ob μ w v0 v1 v2} hc ha hb => ⟨cc, hc.bool, ?_⟩⟩
        obtain ⟨rfl, h1⟩ := ha.int
        obtain ⟨rfl, h2⟩ := hb.int
        have hcc : ∀ cc : Bool, VR E ob μ w (.v true (.int j) (if cc = true then x else y)) (if cc = true then Value.int j x else .int j y) := by
          intro cc; cases cc
          · exact VR.mkInt h2
          · exact VR.mkInt h1
        exact hcc cc
      · cases h
    · have hcc : ∀ cc : Bool, (if cc = true then k a else k b) = some r → ∃ z, k z = some r ∧ ∀ {E : Env} {ob : Store} {μ : Mu} {w : World} {v1 v2 : Value}, VR E ob μ w a v1 → VR E ob μ w b v2 →
          VR E ob μ w z (if cc = true then v1 else v2) := by
        intro cc hh
        cases cc
        · exact ⟨b, hh, fun _ hb => hb⟩
        · exact ⟨a, hh, fun ha _ => ha⟩
      obtain ⟨z, h1, h2⟩ := hcc cc h
      exact ⟨z, h1, fun hc ha hb => ⟨cc, hc.bool, h2 ha hb⟩⟩
  · cases h

theorem minmaxGo_sound (mx : Bool) {j : IntKind} : ∀ {l : List AV} {x : Int} {k : AV → Option Rr}, minmaxK.go mx j x l k = some r →
    ∃ z, k z = some r ∧ ∀ {E : Env} {ob : Store} {μ : Mu} {w : World} {vs : List Value}, ok j x → ArgsR E ob μ w l vs →
      ∃ v, (vs.foldlM (if mx then Builtin.max2 else Builtin.min2) (Value.int j x)).run P w = .ok v w ∧ VR E ob μ w z v
  | [], x, k, h => by
    rw [minmaxK.go] at h
    refine ⟨_, h, fun hx ha => ?_⟩
    cases ha
    exact ⟨_, by simp, VR.mkInt hx⟩
  | y :: l, x, k, h => by
    cases y with
    | v g t d =>
      cases t with
      | int j' =>
        rw [minmaxK.go] at h
        split at h
        · rename_i hj; subst hj
          obtain ⟨z, h1, h2⟩ := minmaxGo_sound mx h
          refine ⟨z, h1, fun {E ob μ w vs} hx ha => ?_⟩
          cases ha with
          | cons hy ha =>
            obtain ⟨rfl, hok⟩ := hy.int
            obtain ⟨v, h3, h4⟩ := h2 (by
              revert hx hok
              cases mx <;> simp only [Bool.false_eq_true, if_true, if_false] <;> intro hx hok <;> split <;> assumption) ha
            refine ⟨v, ?_, h4⟩
            rw [List.foldlM_cons]
            cases mx <;> simp only [Bool.false_eq_true, if_true, if_false] at h3 ⊢ <;> simp [Builtin.max2, Builtin.min2, h3]
        · cases h
      | _ => simp [minmaxK.go] at h
    | _ => simp [minmaxK.go] at h

theorem minmaxK_sound (mx : Bool) {l : List AV} {k : AV → Option Rr} (h : minmaxK mx l k = some r) :
    ∃ z, k z = some r ∧ ∀ {E : Env} {ob : Store} {μ : Mu} {w : World} {vs : Array Value} (tys : Array TypeId) (ty : TypeId), ArgsR E ob μ w l vs.toList →
      ∃ v, (if mx then Builtin.max_ tys ty vs else Builtin.min_ tys ty vs).run P w = .ok v w ∧ VR E ob μ w z v := by
  unfold minmaxK at h
  split at h
  · cases h
  · rename_i g j x l'
    obtain ⟨z, h1, h2⟩ := minmaxGo_sound (P := P) mx h
    refine ⟨z, h1, fun {E ob μ w vs} tys ty ha => ?_⟩
    generalize hvs : vs.toList = ws at ha
    cases ha with
    | cons hy ha =>
      obtain ⟨rfl, hok⟩ := hy.int
      obtain ⟨v, h3, h4⟩ := h2 hok ha
      refine ⟨v, ?_, h4⟩
      cases mx <;> simp only [Bool.false_eq_true, if_true, if_false, Builtin.max_, Builtin.min_, hvs] at h3 ⊢ <;> exact h3
  · cases h

theorem VR.clo {f : Nat} {ns : List Nat} {v : Value} (h : VR E ob μ w (.clo f ns) v) :
    v = .func (.func f) #[] (ns.map fun n => Value.pointer (μ.addr n)).toArray ∧ ∀ n ∈ ns, ∃ T' a x, ob.get n = some (.box T' a) ∧ μ.addr n = some x ∧ x.spot = none := by
  obtain ⟨T, h1, _, h3⟩ := h
  simp only [CR] at h1
  obtain ⟨rfl, h1, h2⟩ := h1
  rw [h3 rfl] at h1
  exact ⟨by simpa using h1, h2⟩

theorem boxNames_sound {E : Env} {st : St} {μ : Mu} {a : Act} {w : World} (hS : StR E st μ a w) : ∀ {l : List AV} {cs : List Nat} {vs : List Value}, boxNames l = some cs → ArgsR E st.ob μ w l vs →
    vs = (cs.map fun n => Value.pointer (μ.addr n)) ∧ ∀ n ∈ cs, ∃ T' a x, st.ob.get n = some (.box T' a) ∧ μ.addr n = some x ∧ x.spot = none
  | [], cs, vs, h, ha => by
    simp [boxNames] at h
    subst h
    cases ha
    simp
  | x :: l, cs, vs, h, ha => by
    cases x with
    | pb n p =>
      cases p with
      | nil =>
        simp only [boxNames, Option.map_eq_some_iff] at h
        obtain ⟨cs', h1, rfl⟩ := h
        cases ha with
        | cons hx ha =>
          obtain ⟨h2, h3⟩ := boxNames_sound hS h1 ha
          obtain ⟨T', b, o, t', x, e1, e2, e3, rfl⟩ := hx.pb
          rw [pathOff.eq_1] at e2
          simp only [Option.some.injEq, Prod.mk.injEq] at e2
          obtain ⟨rfl, rfl⟩ := e2
          obtain ⟨y, cs2, f1, f2, _⟩ := hS.rel.objs n _ e1
          rw [e3] at f1
          obtain rfl := Option.some.inj f1
          refine ⟨?_, fun m hm => ?_⟩
          · obtain ⟨xb, xo, xs⟩ := x
            simp only at f2
            subst f2
            simp [h2, e3]
          · rcases List.mem_cons.1 hm with rfl | hm
            · exact ⟨_, _, _, e1, e3, f2⟩
            · exact h3 m hm
      | cons => simp [boxNames] at h
    | _ => simp [boxNames] at h

theorem TR.nth : ∀ {l : AV} {vs : List Value} {i : Nat}, TR E ob μ w l vs → i < vs.length → SRd E ob μ w (l.nth i) (vs.getD i undef)
  | .nil, [], _, _, hi => by simp at hi
  | .cons h t, v :: vs, 0, hh, _ => by simp only [TR] at hh; simpa [AV.nth] using hh.1
  | .cons h t, v :: vs, i + 1, hh, hi => by simp only [TR] at hh; simpa [AV.nth] using TR.nth (i := i) hh.2 (by simpa using hi)
  | .nil, _ :: _, _, h, _ => by simp [TR] at h
  | .cons .., [], _, h, _ => by simp [TR] at h
  | .v .., _, _, h, _ | .sl .., _, _, h, _ | .sub .., _, _, h, _ | .bs .., _, _, h, _ | .pe .., _, _, h, _ | .pb .., _, _, h, _ | .pr .., _, _, h, _ | .nl .., _, _, h, _
  | .nils, _, _, h, _ | .clo .., _, _, h, _ | .ag .., _, _, h, _ | .tup .., _, _, h, _ | .dead, _, _, h, _ => by simp [TR] at h

theorem SRd.vr {x : AV} {v : Value} (h : SRd E ob μ w x v) : VR E ob μ w x v := by
  rcases h with rfl | ⟨T, h1, h2⟩
  · trivial
  · cases x with
    | dead => trivial
    | tup l => simp only [CR] at h1
    | _ => exact ⟨T, h1, h2⟩

theorem run_newVar (e : TypeId) (v : Value) (w : World) : (newVar e v).run P w = .ok ⟨w.heap.size, 0, none⟩ (World.pushed w v.cells e) := rfl

end
end Go.Eng

/- The engine, part 29: every operation. -/
namespace Go.Eng

section
variable {P : Program} {C : Ctx} {Rr : Type} {r : Rr} {E E' : Env} {ob ob' : Store} {μ μ' : Mu} {w w' : World}

theorem run_v {s : Sem Value} {v : Value} (h : s.run P w = .ok v w') : (do pure (Next.value (← s)) : Sem Next).run P w = .ok (.value v) w' := by simp [h]
theorem run_u {s : Sem Unit} (h : s.run P w = .ok () w') : (do s; pure Next.skip : Sem Next).run P w = .ok .skip w' := by simp [h]

theorem evs {st : St} {a : Act} (hS : StR E st μ a w) : ∀ l : List Operand, ArgsR E st.ob μ w (l.map st.ev) (l.map a.eval)
  | [] => .nil
  | x :: l => .cons (hS.ev x) (evs hS l)
theorem evParts {st : St} {a : Act} (hS : StR E st μ a w) : ∀ l : List (Nat × Operand), PartsR E st.ob μ w (l.map fun (i, x) => (i, st.ev x)) (l.map fun (i, x) => (i, a.eval x))
  | [] => by simp [PartsR]
  | (i, x) :: l => by simp only [List.map_cons, PartsR]; exact ⟨trivial, hS.ev x, evParts hS l⟩
theorem evOR {st : St} {a : Act} (hS : StR E st μ a w) (x : Option Operand) : OR E st.ob μ w (x.map st.ev) (x.map a.eval) := by
  cases x with
  | none => simp [OR]
  | some x => simpa [OR] using hS.ev x

theorem TR.has : ∀ {l : AV} {vs : List Value} {i : Nat}, TR E ob μ w l vs → l.has i = true → i < vs.length
  | .cons h t, v :: vs, 0, _, _ => by simp
  | .cons h t, v :: vs, i + 1, hh, hi => by simp only [TR] at hh; have := TR.has (i := i) hh.2 (by simpa [AV.has] using hi); simpa using this
  | .cons .., [], _, h, _ => by simp [TR] at h
  | .nil, _, _, _, hi | .v .., _, _, _, hi | .sl .., _, _, _, hi | .sub .., _, _, _, hi | .bs .., _, _, _, hi | .pe .., _, _, _, hi | .pb .., _, _, _, hi | .pr .., _, _, _, hi | .nl .., _, _, _, hi
  | .nils, _, _, _, hi | .clo .., _, _, _, hi | .ag .., _, _, _, hi | .tup .., _, _, _, hi | .dead, _, _, _, hi => by simp [AV.has] at hi
theorem ArgsR.append : ∀ {l l' : List AV} {vs vs' : List Value}, ArgsR E ob μ w l vs → ArgsR E ob μ w l' vs' → ArgsR E ob μ w (l ++ l') (vs ++ vs')
  | [], _, _, _, h, h' => by cases h; exact h'
  | x :: l, _, _, _, h, h' => by
    cases h with
    | cons hx h => exact .cons hx (h.append h')
theorem boxArgs : ∀ (cs : List Nat), (∀ n ∈ cs, ∃ T' a x, ob.get n = some (.box T' a) ∧ μ.addr n = some x ∧ x.spot = none) →
    ArgsR E ob μ w (cs.map fun m => .pb m []) (cs.map fun n => Value.pointer (μ.addr n))
  | [], _ => .nil
  | n :: cs, h => by
    obtain ⟨T', a, x, h1, h2, h3⟩ := h n (by simp)
    refine .cons ?_ (boxArgs cs fun m hm => h m (by simp [hm]))
    have := VR.mkPb (E := E) (w := w) (p := []) (o := 0) (t' := T') h1 (by rw [pathOff.eq_1]) h2
    obtain ⟨xb, xo, xs⟩ := x
    simp only at h3
    subst h3
    simpa [h2] using this

theorem zeroN_CR (E : Env) (ob : Store) (μ : Mu) (w : World) : (t : Ty) → t.spine = true → t.spineOk = true → CR E ob μ w (zeroN t) t t.zeros ∧ (zeroN t).isL t = true ∧ (zeroN t).names = []
  | .unit, _, _ => by simp [zeroN, CR, Ty.zeros, AV.isL, AV.names]
  | .pair a b, hs, h => by
    simp only [Ty.spineOk, Bool.and_eq_true] at h
    have hb := zeroN_CR E ob μ w b h.1.2 h.2
    have ha : ∀ x, CR E ob μ w x a a.zeros → x.names = [] → CR E ob μ w (.cons x (zeroN b)) (.pair a b) (Ty.pair a b).zeros ∧ (AV.cons x (zeroN b)).isL (.pair a b) = true ∧ (AV.cons x (zeroN b)).names = [] := by
      intro x hx hn
      simp only [CR, Ty.zeros, AV.isL, AV.names]
      refine ⟨⟨a, b, rfl, ?_, ?_⟩, hb.2.1, by rw [hn, hb.2.2]; rfl⟩
      · rw [← a.zeros_len, List.take_left]; exact hx
      · rw [← a.zeros_len, List.drop_left]; exact hb.1
    have hzn : (zeroAV a).names = [] := by
      cases hc : (zeroAV a).names with
      | nil => rfl
      | cons m r =>
        obtain ⟨o, ho⟩ := (zeroAV_CR (callEnv w [] μ fun _ => True) [] μ w a h.1.1).named m (by rw [hc]; simp)
        cases ho
    rw [zeroN]
    unfold zeroF
    split
    · exact ha .nils (by simp [CR, Ty.zeros]) rfl
    · exact ha _ (zeroAV_CR E ob μ w a h.1.1) hzn
  | .int _, hs, _ | .bool, hs, _ | .str, hs, _ | .sl _, hs, _ | .arr .., hs, _ | .opq _, hs, _ => by simp [Ty.spine] at hs

theorem buildN_sound (hC : CtxT P C) {ob : Store} {T : TypeId} {t : Ty} (hT : C.TT T = some t) {parts : List (Nat × AV)} {k : AV → Option Rr} (h : buildN ob t parts k = some r) :
    ∃ z, k z = some r ∧ ∀ {E : Env} {μ : Mu} {w : World} {vs : Array (Nat × Value)}, PartsR E ob μ w parts vs.toList → ∃ v, (∀ w', (Instr.build T vs).run P w' = .ok v w') ∧ VR E ob μ w z v := by
  have hTok := hC.tt _ _ hT
  obtain ⟨z0, hz0, hz1, hz2⟩ := hTok.zero
  clear hz2
  unfold buildN at h
  split at h
  · rename_i a b
    split at h
    · rename_i hs
      obtain ⟨l', h1, h2⟩ := fillK_sound h
      obtain ⟨fs, hu, places, hp1, hp2⟩ := struct_places hTok
      have hsp : (Ty.pair a b).spine = true := by simp only [Ty.spineOk, Bool.and_eq_true] at hs; simpa [Ty.spine] using hs.1.2
      refine ⟨_, h1, fun {E μ w vs} hp => ?_⟩
      have hz := zeroN_CR E ob μ w (.pair a b) hsp hs
      rw [← hz1] at hz
      obtain ⟨cells, e1, e2⟩ := h2 (cells := z0.cells) (place := (places[·]?)) hp hz.2.1 hz.1 hp2
      have e1' : Instr.fill (places[·]?) z0.cells vs.toList = some cells := e1
      refine ⟨.agg cells, fun w' => by simp only [Instr.build, Sem.run_bind, hz0, run_underlying' hu, Result.andThen_ok, hp1, e1', Sem.run_pure], ?_⟩
      exact VR.of_cells (T := .pair a b) (by simp only [CR]; exact ⟨⟨a, b, rfl⟩, e2⟩) ⟨fun _ => ⟨_, rfl⟩, fun h => by simp [Ty.isAgg] at h⟩
    · cases h
  · cases h

theorem ownH_some {T : Ty} {x : AV} {t : Ty} (h : ownH T x = some t) : x = .nils ∧ ∃ b, T = .pair (.sl t) b := by
  unfold ownH at h
  split at h
  · rename_i t' b
    split at h
    · rename_i hx
      obtain rfl := Option.some.inj h
      exact ⟨by unfold AV.isNils at hx; split at hx <;> simp_all, b, rfl⟩
    · cases h
  · cases h

theorem ownB_sound {d : Nat} {a : Act} : ∀ (l : AV) (T : Ty) (i : Nat) {st : St} {μ : Mu} {cs : List Value}, CR E st.ob μ w l T cs → (∀ n ∈ l.names, n < nm d 0) → StR E st μ a w →
    ∃ μ', StR E (ownBS d i T l st) μ' a w ∧ Moves E st.ob μ w E (ownBS d i T l st).ob μ' w ∧ (∀ m, m < nm d i → Keeps st.ob μ (ownBS d i T l st).ob μ' m) ∧
      CR E (ownBS d i T l st).ob μ' w (ownB d i T l) T cs ∧ ∀ m ∈ (ownB d i T l).names, m < nm d 0 ∨ nm d i ≤ m
  | .cons x r, T, i, st, μ, cs, hc, hn, hS => by
    have hlt : nm d i < nm d (i + 1) := by unfold nm; omega
    have h0 : nm d 0 ≤ nm d i := by unfold nm; omega
    simp only [CR] at hc
    obtain ⟨A, B, rfl, hx, hr⟩ := hc
    simp only [ownBS, ownB, Ty.tl]
    cases hh : ownH (.pair A B) x with
    | none =>
      obtain ⟨μ', h1, h2, h3, h4, h5⟩ := ownB_sound r B (i + 1) hr (fun n h => hn n (by simp [AV.names, h])) hS
      refine ⟨μ', h1, h2, fun m hm => h3 m (by omega), ?_, fun m hm => ?_⟩
      · simp only [CR]
        exact ⟨A, B, rfl, hx.move h2 fun m hm => h3 m (by have := hn m (by simp [AV.names, hm]); omega), h4⟩
      · simp only [AV.names, List.mem_append] at hm
        rcases hm with hm | hm
        · exact .inl (hn m (by simp [AV.names, hm]))
        · have := h5 m hm; omega
    | some t =>
      obtain ⟨rfl, b', hb⟩ := ownH_some hh
      cases hb
      simp only
      have hw := hS.new (Io.refl _) (nm_ge d i) (n := nm d i) (o' := .arr true t []) (w' := w) (a' := none) (c' := 0) (Nat.le_refl _) (fun _ _ => rfl) (fun y hy => by cases hy) (fun hmv hk => by
        simp only [ObjR, Mu.set_addr, Mu.set_cap]
        exact ⟨Nat.zero_le _, Nat.zero_le _, fun _ => trivial, fun y hy => by cases hy⟩)
      obtain ⟨g1, g2, g3⟩ := hw
      have hr' := hr.move g2 fun m hm => g3 m (by have := hn m (by simp [AV.names, hm]); omega)
      obtain ⟨μ', h1, h2, h3, h4, h5⟩ := ownB_sound r B (i + 1) hr' (fun n h => hn n (by simp [AV.names, h])) g1
      refine ⟨μ', h1, g2.trans h2, fun m hm => (g3 m (by omega)).trans (h3 m (by omega)), ?_, fun m hm => ?_⟩
      · simp only [CR]
        refine ⟨.sl t, B, rfl, ?_, h4⟩
        simp only [CR] at hx
        rw [hx.2]
        obtain ⟨o', k1, k2, k3, k4⟩ := h3 (nm d i) hlt _ (St.new_get _ _ _)
        cases o' with
        | box => exact k2.elim
        | arr g' t' l' =>
          obtain ⟨rfl, hl⟩ := k2
          have hl0 : l' = [] := List.eq_nil_of_length_eq_zero (by simpa using hl.symm)
          subst hl0
          exact ⟨g', t, [], k1, rfl, by rw [k3, k4, Mu.set_addr, Mu.set_cap]; rfl⟩
      · simp only [AV.names, List.mem_append, List.mem_singleton] at hm
        rcases hm with rfl | hm
        · exact .inr (Nat.le_refl _)
        · have := h5 m hm; omega
  | .v .., T, i, st, μ, cs, hc, hn, hS | .sl _, T, i, st, μ, cs, hc, hn, hS | .sub .., T, i, st, μ, cs, hc, hn, hS | .bs .., T, i, st, μ, cs, hc, hn, hS | .pe .., T, i, st, μ, cs, hc, hn, hS
  | .pb .., T, i, st, μ, cs, hc, hn, hS | .pr .., T, i, st, μ, cs, hc, hn, hS | .nl _, T, i, st, μ, cs, hc, hn, hS | .nils, T, i, st, μ, cs, hc, hn, hS | .clo .., T, i, st, μ, cs, hc, hn, hS
  | .nil, T, i, st, μ, cs, hc, hn, hS | .ag _, T, i, st, μ, cs, hc, hn, hS | .tup _, T, i, st, μ, cs, hc, hn, hS | .dead, T, i, st, μ, cs, hc, hn, hS =>
    ⟨μ, hS, Moves.refl _ _ _ _, fun m _ => Keeps.refl _ _ _, hc, fun m hm => .inl (hn m hm)⟩

theorem boxOwn_sound {st : St} {t : Ty} {l : AV} {d : Nat} {k : AV → St → Option Rr} (h : boxOwnK st t l d k = some r) :
    ∃ st', k (.pb (nm d 0) []) st' = some r ∧ ∀ {E : Env} {μ : Mu} {w : World} {a : Act} {cs : Array Value} (e : TypeId), StR E st μ a w → CR E st.ob μ w (.ag l) t cs.toList →
      ∃ μ', StR E st' μ' a (World.pushed w cs e) ∧ VR E st'.ob μ' (World.pushed w cs e) (.pb (nm d 0) []) (.pointer (some ⟨w.heap.size, 0, none⟩)) := by
  unfold boxOwnK at h
  split at h
  · rename_i hc
    simp only [Bool.and_eq_true, List.all_eq_true, decide_eq_true_eq] at hc
    refine ⟨_, h, fun {E μ w a cs} e hS hl => ?_⟩
    have hp : ∃ A B, t = .pair A B := by simp only [CR] at hl; exact hl.1
    obtain ⟨A, B, rfl⟩ := hp
    have hl2 : CR E st.ob μ w l (.pair A B) cs.toList := by simp only [CR] at hl; exact hl.2
    obtain ⟨μ1, g1, g2, g3, g4, g5⟩ := ownB_sound (d := d) l (.pair A B) 1 hl2 hc.1 hS
    exact new_box g1 (nm_ge d 0) (T := .pair A B) (x := .ag (ownB d 1 (.pair A B) l)) (cs := cs) e (by simp only [CR]; exact ⟨⟨_, _, rfl⟩, g4⟩) (by
      intro hn
      simp only [AV.names] at hn
      have := g5 _ hn
      unfold nm at this
      omega)
  · cases h

theorem opK_sound (hC : CtxOK P C) {n : Nat} {st : St} {o : Oper} {k : AV → St → Option Rr} (h : opK C n st o k = some r) :
    ∃ z st', k z st' = some r ∧ ∀ {E : Env}, OpS P E st o z st' := by
  have hT := hC.toCtxT
  obtain ⟨dst, op, type, pos, after, guard⟩ := o
  cases op with
  | move x | assign x =>
    simp only [opK] at h
    split at h
    · rename_i t hx hTT
      refine ⟨_, _, h, OpS.of fun μ a w hS => ?_⟩
      have hv := hS.ev x
      rw [hx] at hv
      obtain ⟨μ', h1, h2⟩ := new_none hS (nm_ge (dst.getD 0) 0) (t := t) true
      exact ⟨a.eval x, w, μ', rfl, h1, by rw [hv.nils]; exact h2⟩
    · exact ⟨_, _, h, OpS.pure fun μ a w hS => ⟨a.eval x, rfl, hS.ev x⟩⟩
  | pick c x y =>
    simp only [opK] at h
    obtain ⟨z, h1, h2⟩ := pickK_sound h
    refine ⟨_, _, h1, OpS.pure fun μ a w hS => ?_⟩
    obtain ⟨cc, h3, h4⟩ := h2 (hS.ev c) (hS.ev x) (hS.ev y)
    refine ⟨_, ?_, h4⟩
    simp [execOp, h3, asBool]
  | alloc T =>
    simp only [opK] at h
    split at h
    · rename_i t hTT
      split at h
      · rename_i hsp
        split at h
        · obtain ⟨st', h1, h2⟩ := boxOwn_sound h
          refine ⟨_, _, h1, fun {E} => OpS.of fun μ a w hS => ?_⟩
          have hf : ∃ A B, t = .pair A B := by
            unfold boxOwnK at h
            split at h
            · rename_i hc
              simp only [Bool.and_eq_true] at hc
              cases t with
              | pair A B => exact ⟨A, B, rfl⟩
              | _ => simp [AV.fits] at hc
            · cases h
          obtain ⟨A, B, rfl⟩ := hf
          obtain ⟨zv, z1, z2, _⟩ := (hT.tt _ _ hTT).zero
          have hsp' : (Ty.pair A B).spine = true := by
            simp only [Ty.spineOk, Bool.and_eq_true] at hsp
            simpa [Ty.spine] using hsp.1.2
          obtain ⟨μ', g1, g2⟩ := h2 (cs := zv.cells) T hS (by
            rw [z2]; simp only [CR]; exact ⟨⟨_, _, rfl⟩, (zeroN_CR E st.ob μ w (.pair A B) hsp' hsp).1⟩)
          exact ⟨_, _, μ', by simp [execOp, Instr.alloc, z1, run_newVar], g1, g2⟩
        refine ⟨_, _, h, OpS.of fun μ a w hS => ?_⟩
        obtain ⟨zv, z1, z2, _⟩ := (hT.tt _ _ hTT).zero
        obtain ⟨μ', h1, h2⟩ := new_box hS (nm_ge (dst.getD 0) 0) (T := t) (x := zeroAV t) (cs := zv.cells) T (by rw [z2]; exact zeroAV_CR _ _ _ _ t hsp) (by
          intro hn
          obtain ⟨o, ho⟩ := (zeroAV_CR (callEnv w [] μ fun _ => True) [] μ w t hsp).named _ hn
          cases ho)
        refine ⟨_, _, μ', ?_, h1, h2⟩
        simp [execOp, Instr.alloc, z1, run_newVar]
      · cases h
    · cases h
  | box T x =>
    simp only [opK] at h
    split at h
    · rename_i t hTT
      split at h
      · rename_i l hl
        obtain ⟨st', h1, h2⟩ := boxOwn_sound h
        refine ⟨_, _, h1, OpS.of fun μ a w hS => ?_⟩
        have hx : st.ev x = .ag l := by
          split at hl
          · unfold AV.ag? at hl
            split at hl
            · rename_i l' he; rw [he]; obtain rfl := Option.some.inj hl; rfl
            · cases hl
          · cases hl
        have hv := hS.ev x
        rw [hx] at hv
        have hf : (AV.ag l).fits st.ob t = true := by
          unfold boxOwnK at h
          split at h
          · rename_i hc; simp only [Bool.and_eq_true] at hc; exact hc.2
          · cases h
        obtain ⟨c1, c2⟩ := fits_VR hf hv
        obtain ⟨μ', g1, g2⟩ := h2 (cs := (a.eval x).cells) T hS c1
        exact ⟨_, _, μ', by simp [execOp, Instr.box, run_newVar], g1, g2⟩
      unfold boxK at h
      split at h
      · rename_i hf
        refine ⟨_, _, h, OpS.of fun μ a w hS => ?_⟩
        have hv := (typed_VR (t := t) (hS.ev x)).kill (nm (dst.getD 0) 0)
        obtain ⟨c1, c2⟩ := fits_VR hf hv
        obtain ⟨μ', h1, h2⟩ := new_box hS (nm_ge (dst.getD 0) 0) (T := t) (cs := (a.eval x).cells) T c1 (fun hn => (AV.kill_names _ _ _ hn).2 rfl)
        exact ⟨_, _, μ', by simp [execOp, Instr.box, run_newVar], h1, h2⟩
      · cases h
    · cases h
  | build T parts =>
    simp only [opK] at h
    split at h
    · rename_i t hTT
      split at h
      · obtain ⟨z, h1, h2⟩ := buildN_sound hT hTT h
        refine ⟨_, _, h1, OpS.pure fun μ a w hS => ?_⟩
        obtain ⟨v, h3, h4⟩ := h2 (vs := parts.map fun (i, x) => (i, a.eval x)) (by simpa using evParts hS parts.toList)
        exact ⟨v, run_v (h3 w), h4⟩
      obtain ⟨z, h1, h2⟩ := buildK_sound hT hTT h
      refine ⟨_, _, h1, OpS.pure fun μ a w hS => ?_⟩
      obtain ⟨v, h3, h4⟩ := h2 (vs := parts.map fun (i, x) => (i, a.eval x)) (by simpa using evParts hS parts.toList)
      exact ⟨v, run_v (h3 w), h4⟩
    · cases h
  | buildSlice T len parts =>
    simp only [opK] at h
    split at h
    · rename_i t hTT
      split at h
      · rename_i hc
        obtain ⟨st1, h1, h2⟩ := settle_sound h
        obtain ⟨z, st', h3, h4⟩ := buildSlice_sound hT hTT hc.2.2 hc.1 hc.2.1 h1
        refine ⟨_, _, h3, OpS.of fun μ a w hS => ?_⟩
        have hS1 := h2 hS
        obtain ⟨v, w', μ', h5, h6, h7⟩ := h4 hS1 (vs := parts.map fun (i, x) => (i, a.eval x)) (by simpa using evParts hS1 parts.toList)
        exact ⟨v, w', μ', run_v h5, h6, h7⟩
      · cases h
    · cases h
  | load T p =>
    simp only [opK] at h
    obtain ⟨z, h1, h2⟩ := loadK_sound hT h
    refine ⟨_, _, h1, OpS.pure fun μ a w hS => ?_⟩
    obtain ⟨v, h3, h4⟩ := h2 hS.rel (hS.ev p)
    exact ⟨v, run_v h3.here, h4⟩
  | store T p x =>
    simp only [opK] at h
    obtain ⟨st', h1, h2⟩ := storeK_sound hT h
    refine ⟨_, _, h1, OpS.skip fun μ a w hS => ?_⟩
    obtain ⟨w', h3, h4⟩ := h2 hS
    exact ⟨w', μ, run_u h3, h4⟩
  | nilCheck x =>
    simp only [opK] at h
    split at h
    · rename_i m p hx
      refine ⟨_, _, h, OpS.pure fun μ a w hS => ?_⟩
      have hv := hS.ev x
      rw [hx] at hv
      obtain ⟨_, _, _, _, _, _, _, _, he⟩ := hv.pb
      exact ⟨a.eval x, by simp [execOp, he], hv⟩
    · rename_i m i p hx
      refine ⟨_, _, h, OpS.pure fun μ a w hS => ?_⟩
      have hv := hS.ev x
      rw [hx] at hv
      obtain ⟨_, _, _, _, _, _, _, _, _, _, he⟩ := hv.pe
      exact ⟨a.eval x, by simp [execOp, he], hv⟩
    · rename_i g t d hx
      refine ⟨_, _, h, OpS.pure fun μ a w hS => ?_⟩
      have hv := hS.ev x
      rw [hx] at hv
      obtain ⟨_, _, _, he, _⟩ := hv.pr
      exact ⟨a.eval x, by simp [execOp, he], hv⟩
    · rename_i f cs hx
      refine ⟨_, _, h, OpS.pure fun μ a w hS => ?_⟩
      have hv := hS.ev x
      rw [hx] at hv
      have he := hv.clo.1
      exact ⟨a.eval x, by simp [execOp, he], hv⟩
    · cases h
  | binOp op T x y yt =>
    simp only [opK] at h
    obtain ⟨z, h1, h2⟩ := binK_sound (fun t ht => hT.tt T t ht) hT.depth h
    refine ⟨_, _, h1, OpS.pure fun μ a w hS => ?_⟩
    obtain ⟨v, h3, h4⟩ := h2 x y (hS.ev x) (hS.ev y)
    exact ⟨v, run_v (h3 w), h4⟩
  | unOp op T x =>
    simp only [opK] at h
    obtain ⟨z, h1, h2⟩ := unK_sound (P := P) h
    refine ⟨_, _, h1, OpS.pure fun μ a w hS => ?_⟩
    obtain ⟨v, h3, h4⟩ := h2 (hS.ev x)
    exact ⟨v, run_v (h3 w), h4⟩
  | convert s t x =>
    simp only [opK] at h
    obtain ⟨z, st', h1, h2⟩ := convertK_sound hT h
    refine ⟨_, _, h1, OpS.of fun μ a w hS => ?_⟩
    obtain ⟨v, w', μ', h3, h4, h5⟩ := h2 hS (hS.ev x)
    exact ⟨v, w', μ', run_v h3, h4, h5⟩
  | makeFunc fn first captured =>
    cases fn with
    | func f =>
      simp only [opK] at h
      split at h
      · rename_i hf
        split at h
        · rename_i cs hcs
          refine ⟨_, _, h, OpS.pure fun μ a w hS => ?_⟩
          obtain ⟨h1, h2⟩ := boxNames_sound hS hcs (evs hS captured.toList)
          have he : first.map a.eval = #[] := by
            obtain rfl : first = #[] := Array.eq_empty_of_size_eq_zero hf
            simp
          have hc : captured.map a.eval = (cs.map fun n => Value.pointer (μ.addr n)).toArray := by
            apply Array.toList_inj.1
            simp [h1]
          refine ⟨.func (.func f) #[] (captured.map a.eval), by simp [execOp, Instr.makeFunc, he], .opq .fn, ?_, by simp [Ty.isAgg], fun _ => rfl⟩
          simp only [CR, Value.cells, hc]
          exact ⟨trivial, trivial, h2⟩
        · cases h
      · cases h
    | _ => simp [opK] at h
  | makeSlice T l c =>
    simp only [opK] at h
    obtain ⟨z, st', h1, h2⟩ := makeSliceK_sound hT h
    refine ⟨_, _, h1, OpS.of fun μ a w hS => ?_⟩
    obtain ⟨v, w', μ', h3, h4, h5⟩ := h2 hS (hS.ev l) (hS.ev c)
    exact ⟨v, w', μ', run_v h3, h4, h5⟩
  | slice T x lo hi mx =>
    simp only [opK] at h
    obtain ⟨z, h1, h2⟩ := sliceK_sound hT h
    refine ⟨_, _, h1, OpS.pure fun μ a w hS => ?_⟩
    obtain ⟨v, h3, h4⟩ := h2 hS.rel (hS.ev x) (evOR hS lo) (evOR hS hi) (evOR hS mx)
    exact ⟨v, run_v (h3 w), h4⟩
  | fieldAddr T x i =>
    simp only [opK] at h
    obtain ⟨z, h1, h2⟩ := fieldAddrK_sound hT h
    refine ⟨_, _, h1, OpS.pure fun μ a w hS => ?_⟩
    obtain ⟨v, h3, h4⟩ := h2 (hS.ev x)
    exact ⟨v, run_v (h3 w), h4⟩
  | field T x i =>
    simp only [opK] at h
    obtain ⟨z, h1, h2⟩ := fieldK_sound hT h
    refine ⟨_, _, h1, OpS.pure fun μ a w hS => ?_⟩
    obtain ⟨v, h3, h4⟩ := h2 (hS.ev x)
    exact ⟨v, run_v (h3 w), h4⟩
  | indexAddr T x i =>
    simp only [opK] at h
    obtain ⟨z, h1, h2⟩ := indexAddrK_sound hT h
    refine ⟨_, _, h1, OpS.pure fun μ a w hS => ?_⟩
    obtain ⟨v, h3, h4⟩ := h2 hS.rel (hS.ev x) (hS.ev i)
    exact ⟨v, run_v (h3 w), h4⟩
  | index T x i =>
    simp only [opK] at h
    obtain ⟨z, h1, h2⟩ := indexK_sound hT h
    refine ⟨_, _, h1, OpS.pure fun μ a w hS => ?_⟩
    obtain ⟨v, h3, h4⟩ := h2 (hS.ev x) (hS.ev i)
    exact ⟨v, run_v (h3 w), h4⟩
  | extract t i =>
    simp only [opK] at h
    split at h
    · rename_i l hl
      split at h
      · rename_i hh
        refine ⟨_, _, h, OpS.pure fun μ a w hS => ?_⟩
        have hv := hS.ev t
        rw [hl] at hv
        obtain ⟨vs, he, htr⟩ := hv
        have hi := TR.has htr hh
        have hn := TR.nth htr hi
        refine ⟨vs.toList.getD i undef, ?_, hn.vr⟩
        have hi' : i < vs.size := by simpa using hi
        simp [execOp, Instr.extract, he, List.getD, Array.getElem?_eq_getElem hi']
      · cases h
    · cases h
  | call c =>
    obtain ⟨callee, args, argTypes⟩ := c
    cases callee with
    | builtin b =>
      cases b with
      | len =>
        simp only [opK] at h
        split at h
        · rename_i T x hTs hxs
          obtain ⟨z, h1, h2⟩ := lenK_sound hT h
          refine ⟨_, _, h1, OpS.pure fun μ a w hS => ?_⟩
          obtain ⟨v, h3, h4⟩ := h2 type hS.rel (hS.ev x)
          refine ⟨v, ?_, h4⟩
          have e1 : args = #[x] := Array.toList_inj.1 hxs
          have e2 : argTypes = #[T] := Array.toList_inj.1 hTs
          subst e1; subst e2
          simp [execOp, resolve, invoke, builtin, h3 w]
        · cases h
      | append =>
        simp only [opK] at h
        split at h
        · rename_i T0 T1 s x hTs hxs
          obtain ⟨z, st', h1, h2⟩ := appendK_sound hT h
          refine ⟨_, _, h1, OpS.of fun μ a w hS => ?_⟩
          obtain ⟨v, w', μ', h3, h4, h5⟩ := h2 type hS (hS.ev s) (hS.ev x)
          refine ⟨v, w', μ', ?_, h4, h5⟩
          have e1 : args = #[s, x] := Array.toList_inj.1 hxs
          have e2 : argTypes = #[T0, T1] := Array.toList_inj.1 hTs
          subst e1; subst e2
          simp [execOp, resolve, invoke, builtin, h3]
        · cases h
      | min =>
        simp only [opK] at h
        obtain ⟨z, h1, h2⟩ := minmaxK_sound (P := P) false h
        refine ⟨_, _, h1, OpS.pure fun μ a w hS => ?_⟩
        obtain ⟨v, h3, h4⟩ := h2 (vs := args.map a.eval) argTypes type (by simpa using evs hS args.toList)
        exact ⟨v, by simpa [execOp, resolve, invoke, builtin] using run_v h3, h4⟩
      | max =>
        simp only [opK] at h
        obtain ⟨z, h1, h2⟩ := minmaxK_sound (P := P) true h
        refine ⟨_, _, h1, OpS.pure fun μ a w hS => ?_⟩
        obtain ⟨v, h3, h4⟩ := h2 (vs := args.map a.eval) argTypes type (by simpa using evs hS args.toList)
        exact ⟨v, by simpa [execOp, resolve, invoke, builtin] using run_v h3, h4⟩
      | _ => simp [opK] at h
    | value f =>
      simp only [opK] at h
      split at h
      · rename_i g cs hf
        obtain ⟨args1, st1, hp, hprep⟩ := prepI_sound h
        obtain ⟨z, st', h1, ⟨fn, hfn, hname, hbody⟩, h2⟩ := callK_sound hC hp
        refine ⟨_, _, h1, fun {E} => ?_⟩
        intro μ a w hS next Q hn
        have hv := hS.ev f
        rw [hf] at hv
        obtain ⟨he, hcap⟩ := hv.clo
        have hargs : ArgsR E st.ob μ w (args.toList.map st.ev ++ cs.map fun m => .pb m []) ((args.map a.eval) ++ (cs.map fun n => Value.pointer (μ.addr n)).toArray).toList := by
          rw [Array.toList_append]
          exact (by simpa using evs hS args.toList : ArgsR E st.ob μ w (args.toList.map st.ev) (args.map a.eval).toList).append (boxArgs cs hcap)
        have hrun : (execOp a.eval ⟨dst, .call ⟨.value f, args, argTypes⟩, type, pos, after, guard⟩).run P w = .ok (.enter g (args.map a.eval ++ (cs.map fun n => Value.pointer (μ.addr n)).toArray)) w := by
          have hn1 : ¬ fn.name = "runtime.NumGoroutine" := by simpa using hname
          have hb1 : ¬ fn.body = none := fun e => by rw [e] at hbody; cases hbody
          simp [execOp, resolve, he, Deferred.ofValue, invoke, callFunc, hfn, hn1, hb1]
        unfold Oper.wp
        rw [hrun, Oper.upon_enter]
        obtain ⟨μp, hSp, hap⟩ := hprep hS hargs
        refine Calls.mono (h2 hSp hap) ?_
        rintro e w' ⟨v, μ', rfl, h3, h4⟩
        exact hn μ' v w' h3 h4
      · cases h
    | invoke => simp [opK] at h
  | _ => simp [opK] at h

end
end Go.Eng

/- The engine, part 30: regions and code. -/
namespace Go.Eng

def Ex.ex : Ex → Exit
  | .normal => .normal
  | .exit id => .exit id
  | .ret => .ret

section
variable {P : Program} {C : Ctx} {Rr : Type} {r : Rr} {E E' : Env} {ob ob' : Store} {μ μ' : Mu} {w w' : World}

theorem St.set_ob (st : St) (d : Option Nat) (x : AV) : (st.set d x).ob = st.ob := by cases d <;> rfl

theorem StR.set {st : St} {a : Act} (hS : StR E st μ a w) {x : AV} {v : Value} (hx : VR E st.ob μ w x v) (d : Option Nat) : StR E (st.set d x) μ (a.put d v) w := by
  cases d with
  | none => exact hS
  | some d =>
    refine ⟨hS.rel, ⟨by simpa [St.set, Act.put] using hS.slots.1, fun i hi => ?_⟩, hS.defers⟩
    simp only [St.set, List.length_set] at hi
    have h0 := hS.slots.2 i hi
    have hlt : i < a.tmps.size := by rw [← hS.slots.1]; exact hi
    simp only [St.set, Act.put, List.getElem_set]
    by_cases hd : d = i
    · subst hd; simpa [hlt, Array.getD] using hx
    · rw [if_neg hd]
      have : (a.tmps.setIfInBounds d v).getD i undef = a.tmps.getD i undef := by
        simp [Array.getD, hlt, hd]
      rw [this]; exact h0

theorem StR.know {st : St} {a : Act} (hS : StR E st μ a w) {x : AV} {d : Nat} (hx : VR E st.ob μ w x (a.tmps.getD d undef)) : StR E (st.set (some d) x) μ a w := by
  refine ⟨hS.rel, ⟨by simpa [St.set] using hS.slots.1, fun i hi => ?_⟩, hS.defers⟩
  simp only [St.set, List.length_set] at hi
  simp only [St.set, List.getElem_set]
  by_cases hd : d = i
  · subst hd; simpa using hx
  · rw [if_neg hd]; exact hS.slots.2 i hi

theorem StR.slot {st : St} {a : Act} (hS : StR E st μ a w) (d : Nat) : VR E st.ob μ w (st.sl.getD d .dead) (a.tmps.getD d undef) := by
  have := hS.ev (.tmp d)
  exact this

theorem slot_lt {st : St} {a : Act} (hS : StR E st μ a w) {d : Nat} (h : st.sl.getD d .dead ≠ .dead) : d < a.tmps.size := by
  rw [← hS.slots.1]
  refine Classical.byContradiction fun hd => h ?_
  simp [List.getD, List.getElem?_eq_none (Nat.le_of_not_lt hd)]

theorem guardK_sound {ops : Array Oper} {o : Oper} {st : St} {yes no : St → Option Rr} (h : guardK ops o st yes no = some r) :
    ∃ st' b, (if b = true then yes st' else no st') = some r ∧ ∀ {E : Env} {μ : Mu} {a : Act} {w : World}, StR E st μ a w → StR E st' μ a w ∧ Region.wanted o (yielded ops a.tmps) = b := by
  unfold guardK at h
  split at h
  · rename_i hg
    exact ⟨st, true, by simpa using h, fun hS => ⟨hS, by simp [Region.wanted, hg]⟩⟩
  · rename_i j want hg
    split at h
    · cases h
    · rename_i d hd
      split at h
      · rename_i g b hsl
        have key : ∀ {E : Env} {μ : Mu} {a : Act} {w : World}, StR E st μ a w → a.tmps.getD d undef = .bool b ∧ yielded ops a.tmps j = some b := by
          intro E μ a w hS
          have h1 := hS.slot d
          rw [hsl] at h1
          have h2 := h1.bool
          have h3 := slot_lt hS (d := d) (by rw [hsl]; intro e; cases e)
          refine ⟨h2, ?_⟩
          have h4 : a.tmps[d]? = some (.bool b) := by
            rw [Array.getElem?_eq_getElem h3]
            simpa [Array.getD, h3] using h2
          simp [yielded, hd, h4]
        have gen : ∀ b : Bool, (∀ {E : Env} {μ : Mu} {a : Act} {w : World}, StR E st μ a w → a.tmps.getD d undef = .bool b ∧ yielded ops a.tmps j = some b) →
            (if b = true then (if want then yes else no) (st.set (some d) (.v g .bool true)) else (if want then no else yes) (st.set (some d) (.v g .bool false))) = some r →
            ∃ st' b, (if b = true then yes st' else no st') = some r ∧ ∀ {E : Env} {μ : Mu} {a : Act} {w : World}, StR E st μ a w → StR E st' μ a w ∧ Region.wanted o (yielded ops a.tmps) = b := by
          intro b key h
          cases b with
          | true =>
            refine ⟨st.set (some d) (.v g .bool true), want, ?_, fun hS => ⟨hS.know (by rw [(key hS).1]; exact VR.mkBool), ?_⟩⟩
            · cases want <;> simpa using h
            · simp [Region.wanted, hg, (key hS).2]
          | false =>
            refine ⟨st.set (some d) (.v g .bool false), !want, ?_, fun hS => ⟨hS.know (by rw [(key hS).1]; exact VR.mkBool), ?_⟩⟩
            · cases want <;> simpa using h
            · cases want <;> simp [Region.wanted, hg, (key hS).2]
        exact gen b key h
      · rename_i hsl
        refine ⟨st, false, by simpa using h, fun {E μ a w} hS => ⟨hS, ?_⟩⟩
        have h1 := hS.slot d
        rw [hsl] at h1
        have h2 : a.tmps.getD d undef = undef := by
          obtain ⟨vs, e, ht⟩ := h1
          rw [e]
          cases hv : vs.toList with
          | nil =>
            have : vs = #[] := by simpa using hv
            rw [this]; rfl
          | cons x r => rw [hv] at ht; exact ht.elim
        have h3 : yielded ops a.tmps j = none := by
          unfold yielded
          rw [hd]
          simp only [Option.bind_some]
          by_cases hz : d < a.tmps.size
          · have : a.tmps[d]? = some undef := by
              rw [Array.getElem?_eq_getElem hz]
              simpa [Array.getD, hz] using h2
            rw [this]; rfl
          · rw [Array.getElem?_eq_none (Nat.le_of_not_lt hz)]
        simp [Region.wanted, hg, h3]
      · cases h

theorem norm_VR {x : AV} {v : Value} (h : VR E ob μ w x v) : VR E ob μ w x.norm v := by
  cases x with
  | v g t d =>
    obtain ⟨h1, h2⟩ := VR.v_iff.1 h
    refine VR.v_iff.2 ⟨?_, h2⟩
    by_cases hf : t.flat = true
    · exact h1.ofFlat hf
    · have : (g || t.flat) = g := by cases g <;> simp [hf]
      rw [this]; exact h1
  | _ => exact h

theorem fade_VR {x : AV} {v : Value} (h : VR E ob μ w x v) : VR E ob μ w x.fade v := by
  cases x with
  | tup l =>
    cases l with
    | nil => trivial
    | _ => exact h
  | _ => exact h
theorem StR.fade {st : St} {a : Act} (hS : StR E st μ a w) : StR E st.fade μ a w := by
  refine { rel := hS.rel, slots := ⟨by simpa [St.fade] using hS.slots.1, fun i h => ?_⟩, defers := hS.defers }
  have := hS.slots.2 i (by simpa [St.fade] using h)
  simp only [St.fade, List.getElem_map]
  exact fade_VR this
theorem runOps_sound (hC : CtxOK P C) {n : Nat} {ops : Array Oper} : ∀ {l : List Nat} {st : St} {k : St → Option Rr}, runOps C n ops l st k = some r →
    ∃ st', k st' = some r ∧ ∀ {E : Env} {μ : Mu} {a : Act} {w : World}, StR E st μ a w → ∀ Q : Exit → Act → World → Prop,
      (∀ μ' a' w', StR E st' μ' a' w' → Q .normal a' w') → wpOps P ops Q l a w
  | [], st, k, h => ⟨st, h, fun hS Q hQ => hQ _ _ _ hS⟩
  | i :: l, st, k, h => by
    rw [runOps] at h
    split at h
    · cases h
    · rename_i o ho
      obtain ⟨st1, b, h1, h2⟩ := guardK_sound h
      cases b with
      | true =>
        simp only [if_true] at h1
        obtain ⟨z, st2, h3, h4⟩ := opK_sound hC h1
        obtain ⟨st', h5, h6⟩ := runOps_sound hC h3
        refine ⟨st', h5, fun {E μ a w} hS Q hQ => ?_⟩
        obtain ⟨hS1, hw⟩ := h2 hS
        simp only [wpOps, ho, hw, if_true]
        refine .inl (h4 μ a w hS1 _ _ fun μ' v w' hS2 hz => ?_)
        exact h6 (hS2.set (norm_VR hz) o.dst) Q hQ
      | false =>
        simp only [Bool.false_eq_true, if_false] at h1
        obtain ⟨st', h5, h6⟩ := runOps_sound hC h1
        refine ⟨st', h5, fun {E μ a w} hS Q hQ => ?_⟩
        obtain ⟨hS1, hw⟩ := h2 hS
        simp only [wpOps, ho, hw, Bool.false_eq_true, if_false]
        exact h6 (hS1.set (x := .tup .nil) ⟨#[], rfl, trivial⟩ o.dst) Q hQ

/-! ### operations in whatever order -/
theorem StR.ext {st : St} {a : Act} (h : Ext w w') (hS : StR E st μ a w) : StR E st μ a w' := by
  have mv : Moves E st.ob μ w E st.ob μ w' := ⟨h.size, fun _ _ hs _ => hs, fun b _ hb => h.old b hb⟩
  exact {
    rel := {
      lent := hS.rel.lent
      size := Nat.le_trans hS.rel.size h.size
      io := hS.rel.io.trans h.io
      frame := fun b hb hx => (h.old b (Nat.lt_of_lt_of_le hb hS.rel.size)).trans (hS.rel.frame b hb hx)
      own := fun n o x h1 h2 => let ⟨h3, h4⟩ := hS.rel.own n o x h1 h2; ⟨Nat.lt_of_lt_of_le h3 h.size, h4⟩
      inj := hS.rel.inj
      keep := hS.rel.keep
      objs := fun n o ho => (hS.rel.objs n o ho).move mv (fun k _ => Keeps.refl _ _ k) (fun x hx => h.old _ (hS.rel.own n o x ho hx).1) rfl rfl }
    slots := hS.slots.move mv fun _ _ n _ => Keeps.refl _ _ n
    defers := hS.defers }

/-- it gives z, in whatever world with more memory -/
def QuietS (P : Program) (E : Env) (st : St) (o : Oper) (z : AV) : Prop :=
  ∀ μ a w, StR E st μ a w → ∃ v, (∀ w', Ext w w' → o.quietAt P a (Ext w) w' v) ∧ VR E st.ob μ w z v

theorem QuietS.of {st : St} {o : Oper} {z : AV} (h : ∀ μ a w, StR E st μ a w → ∃ v, (∀ w', Ext w w' → (execOp a.eval o).run P w' = .ok (.value v) w') ∧ VR E st.ob μ w z v) : QuietS P E st o z := by
  intro μ a w hS
  obtain ⟨v, h1, h2⟩ := h μ a w hS
  refine ⟨v, fun w' hw => ?_, h2⟩
  unfold Oper.quietAt
  rw [h1 w' hw]
  exact ⟨rfl, rfl⟩

def simpleCells : (t : Ty) → t.D → List Value
  | .int k, n => [.int k n]
  | .bool, b => [.bool b]
  | .str, s => [.string s]
  | .pair a b, d => simpleCells a d.1 ++ simpleCells b d.2
  | _, _ => []
theorem simple_cells {S : Nat → Prop} : {t : Ty} → {d : t.D} → {cs : List Value} → t.simple = true → R w S t d cs → cs = simpleCells t d
  | .int _, _, _, _, h => by simp only [R] at h; exact h.1
  | .bool, _, _, _, h => by simp only [R] at h; exact h
  | .str, _, _, _, h => by simp only [R] at h; exact h
  | .unit, _, _, _, h => by simp only [R] at h; exact h
  | .pair a b, d, cs, hs, h => by
    simp only [Ty.simple, Bool.and_eq_true] at hs
    simp only [R] at h
    rw [simpleCells, ← simple_cells hs.1 h.1, ← simple_cells hs.2 h.2, List.take_append_drop]
  | .sl _, _, _, hs, _ | .arr _ _, _, _, hs, _ | .opq _, _, _, hs, _ => by simp [Ty.simple] at hs
theorem simple_R {w1 w2 : World} {S S' : Nat → Prop} : {t : Ty} → {d : t.D} → {cs : List Value} → t.simple = true → R w1 S t d cs → R w2 S' t d cs
  | .int _, _, _, _, h => by simpa only [R] using h
  | .bool, _, _, _, h => by simpa only [R] using h
  | .str, _, _, _, h => by simpa only [R] using h
  | .unit, _, _, _, h => by simpa only [R] using h
  | .pair a b, d, cs, hs, h => by
    simp only [Ty.simple, Bool.and_eq_true] at hs
    simp only [R] at h ⊢
    exact ⟨simple_R hs.1 h.1, simple_R hs.2 h.2⟩
  | .sl _, _, _, hs, _ | .arr _ _, _, _, hs, _ | .opq _, _, _, hs, _ => by simp [Ty.simple] at hs
def simpleVal (t : Ty) (d : t.D) : Value := if t.isAgg then .agg (simpleCells t d).toArray else (simpleCells t d).headD undef
theorem VR.simple {g : Bool} {t : Ty} {d : t.D} {v : Value} (hs : t.simple = true) (h : VR E ob μ w (.v g t d) v) : v = simpleVal t d := by
  obtain ⟨h1, h2⟩ := VR.v_iff.1 h
  have h3 := simple_cells hs h1
  unfold simpleVal
  rw [← h3]
  cases ha : t.isAgg with
  | true =>
    obtain ⟨c, rfl⟩ := h2.1 ha
    simp [Value.cells]
  | false =>
    rw [h2.2 ha]
    simp

theorem callQ_sound (hC : CtxOK P C) {st : St} {f : Nat} {args : List AV} {k : AV → Option Rr} (h : callQ C st f args k = some r) :
    ∃ z, k z = some r ∧ (∃ fn, P.funcs[f]? = some fn ∧ (fn.name == "runtime.NumGoroutine") = false ∧ fn.body.isNone = false) ∧
      ∀ {E : Env} {μ : Mu} {a : Act} {w : World} {vs : Array Value}, StR E st μ a w → ArgsR E st.ob μ w args vs.toList →
        ∃ v, Calls P f vs w (fun e w' => e = .returned v ∧ Ext w w') ∧ VR E st.ob μ w z v ∧ z.rigid = true := by
  unfold callQ at h
  split at h
  · cases h
  · rename_i G hG
    obtain ⟨hsound, hfn⟩ := hC.ct f G hG
    split at h
    · have hL : Closed st.ob [] := ⟨List.nodup_nil, fun n hn => by simp at hn, fun n hn => by simp at hn⟩
      obtain ⟨xs, h1, h2⟩ := argsK_sound hL h
      obtain ⟨x, ob', h3, h4⟩ := hsound _ _ _ _ _ h1
      split at h3
      · rename_i hc
        simp only [Bool.and_eq_true, List.isEmpty_iff] at hc
        obtain ⟨rfl, hrig⟩ := hc
        refine ⟨_, h3, hfn, fun {E μ a w vs} hS ha => ?_⟩
        rw [← withM_snd (C.LD f) args] at ha
        have hR1 := hS.rel.call hL (by simp) (fun n hn => by simp at hn) (A := lentA E st.ob μ true) fun b hb => .inr hb
        have hcall := h4 w _ _ vs hR1 (h2 hS.rel (fun _ => rfl) ha)
        cases x with
        | v g t d =>
          simp only [AV.rigid] at hrig
          refine ⟨simpleVal t d, Calls.mono hcall ?_, ?_, hrig⟩
          · rintro e w' ⟨v, μ', rfl, hR', hx⟩
            refine ⟨by rw [hx.simple hrig], hR'.size, hR'.io, fun b hb => hR'.frame b hb ?_⟩
            rintro ⟨n, o, y, hn, _⟩
            simp [Store.get] at hn
          · obtain ⟨e, w', _, ⟨v, μ', _, _, hx⟩, _⟩ := hcall []
            obtain ⟨h5, h6⟩ := VR.v_iff.1 hx
            rw [← hx.simple hrig]
            exact VR.v_iff.2 ⟨simple_R hrig h5, h6⟩
        | _ => simp [AV.rigid] at hrig
      · cases h3
    · cases h

theorem opQ_sound (hC : CtxOK P C) {st : St} {o : Oper} {k : AV → Option Rr} (h : opQ C st o k = some r) :
    ∃ z, k z = some r ∧ ∀ {E : Env}, QuietS P E st o z := by
  have hT := hC.toCtxT
  obtain ⟨dst, op, type, pos, after, guard⟩ := o
  cases op with
  | move x | assign x =>
    simp only [opQ] at h
    split at h
    · cases h
    · exact ⟨_, h, QuietS.of fun μ a w hS => ⟨a.eval x, fun w' _ => rfl, hS.ev x⟩⟩
  | pick c x y =>
    simp only [opQ] at h
    obtain ⟨z, h1, h2⟩ := pickK_sound h
    refine ⟨_, h1, QuietS.of fun μ a w hS => ?_⟩
    obtain ⟨cc, h3, h4⟩ := h2 (hS.ev c) (hS.ev x) (hS.ev y)
    exact ⟨_, fun w' _ => by simp [execOp, h3, asBool], h4⟩
  | load T p =>
    simp only [opQ] at h
    obtain ⟨z, h1, h2⟩ := loadK_sound hT h
    refine ⟨_, h1, QuietS.of fun μ a w hS => ?_⟩
    obtain ⟨v, h3, h4⟩ := h2 hS.rel (hS.ev p)
    exact ⟨v, fun w' hw => run_v (h3 w' hw), h4⟩
  | nilCheck x =>
    simp only [opQ, opK] at h
    split at h
    · rename_i m p hx
      refine ⟨_, h, QuietS.of fun μ a w hS => ?_⟩
      have hv := hS.ev x
      rw [hx] at hv
      obtain ⟨_, _, _, _, _, _, _, _, he⟩ := hv.pb
      exact ⟨a.eval x, fun w' _ => by simp [execOp, he], hv⟩
    · rename_i m i p hx
      refine ⟨_, h, QuietS.of fun μ a w hS => ?_⟩
      have hv := hS.ev x
      rw [hx] at hv
      obtain ⟨_, _, _, _, _, _, _, _, _, _, he⟩ := hv.pe
      exact ⟨a.eval x, fun w' _ => by simp [execOp, he], hv⟩
    · rename_i g t d hx
      refine ⟨_, h, QuietS.of fun μ a w hS => ?_⟩
      have hv := hS.ev x
      rw [hx] at hv
      obtain ⟨_, _, _, he, _⟩ := hv.pr
      exact ⟨a.eval x, fun w' _ => by simp [execOp, he], hv⟩
    · rename_i f cs hx
      refine ⟨_, h, QuietS.of fun μ a w hS => ?_⟩
      have hv := hS.ev x
      rw [hx] at hv
      have he := hv.clo.1
      exact ⟨a.eval x, fun w' _ => by simp [execOp, he], hv⟩
    · cases h
  | binOp op T x y yt =>
    simp only [opQ] at h
    obtain ⟨z, h1, h2⟩ := binK_sound (fun t ht => hT.tt T t ht) hT.depth h
    refine ⟨_, h1, QuietS.of fun μ a w hS => ?_⟩
    obtain ⟨v, h3, h4⟩ := h2 x y (hS.ev x) (hS.ev y)
    exact ⟨v, fun w' _ => run_v (h3 w'), h4⟩
  | unOp op T x =>
    simp only [opQ] at h
    obtain ⟨z, h1, h2⟩ := unK_sound (P := P) h
    refine ⟨_, h1, QuietS.of fun μ a w hS => ?_⟩
    obtain ⟨v, h3, h4⟩ := h2 (hS.ev x)
    exact ⟨v, fun w' _ => run_v (h3 w'), h4⟩
  | convert s t x =>
    simp only [opQ] at h
    split at h
    · rename_i j0 j g j1 n h1 h2 hx
      have t1 := hT.tt _ _ h1
      have t2 := hT.tt _ _ h2
      simp only [TOK] at t1 t2
      refine ⟨_, h, QuietS.of fun μ a w hS => ?_⟩
      have hv := hS.ev x
      rw [hx] at hv
      obtain ⟨he, _⟩ := hv.int
      refine ⟨_, fun w' _ => run_v (w' := w') (v := .int j (j.wrap n)) ?_, VR.mkInt (ok_wrap _ _)⟩
      rw [he]
      simp [Go.convert, run_underlying' t1.2, run_underlying' t2.2, Conv.intToInt]
    · cases h
  | slice T x lo hi mx =>
    simp only [opQ] at h
    obtain ⟨z, h1, h2⟩ := sliceK_sound hT h
    refine ⟨_, h1, QuietS.of fun μ a w hS => ?_⟩
    obtain ⟨v, h3, h4⟩ := h2 hS.rel (hS.ev x) (evOR hS lo) (evOR hS hi) (evOR hS mx)
    exact ⟨v, fun w' _ => run_v (h3 w'), h4⟩
  | fieldAddr T x i =>
    simp only [opQ] at h
    obtain ⟨z, h1, h2⟩ := fieldAddrK_sound hT h
    refine ⟨_, h1, QuietS.of fun μ a w hS => ?_⟩
    obtain ⟨v, h3, h4⟩ := h2 (hS.ev x)
    exact ⟨v, fun w' _ => run_v (h3 w'), h4⟩
  | field T x i =>
    simp only [opQ] at h
    obtain ⟨z, h1, h2⟩ := fieldK_sound hT h
    refine ⟨_, h1, QuietS.of fun μ a w hS => ?_⟩
    obtain ⟨v, h3, h4⟩ := h2 (hS.ev x)
    exact ⟨v, fun w' _ => run_v (h3 w'), h4⟩
  | indexAddr T x i =>
    simp only [opQ] at h
    obtain ⟨z, h1, h2⟩ := indexAddrK_sound hT h
    refine ⟨_, h1, QuietS.of fun μ a w hS => ?_⟩
    obtain ⟨v, h3, h4⟩ := h2 hS.rel (hS.ev x) (hS.ev i)
    exact ⟨v, fun w' _ => run_v (h3 w'), h4⟩
  | index T x i =>
    simp only [opQ] at h
    obtain ⟨z, h1, h2⟩ := indexK_sound hT h
    refine ⟨_, h1, QuietS.of fun μ a w hS => ?_⟩
    obtain ⟨v, h3, h4⟩ := h2 (hS.ev x) (hS.ev i)
    exact ⟨v, fun w' _ => run_v (h3 w'), h4⟩
  | build T parts =>
    simp only [opQ] at h
    split at h
    · rename_i t hTT
      obtain ⟨z, h1, h2⟩ := buildK_sound hT hTT h
      refine ⟨_, h1, QuietS.of fun μ a w hS => ?_⟩
      obtain ⟨v, h3, h4⟩ := h2 (vs := parts.map fun (i, x) => (i, a.eval x)) (by simpa using evParts hS parts.toList)
      exact ⟨v, fun w' _ => run_v (h3 w'), h4⟩
    · cases h
  | extract t i =>
    simp only [opQ] at h
    split at h
    · rename_i l hl
      split at h
      · rename_i hh
        refine ⟨_, h, QuietS.of fun μ a w hS => ?_⟩
        have hv := hS.ev t
        rw [hl] at hv
        obtain ⟨vs, he, htr⟩ := hv
        have hi := TR.has htr hh
        have hn := TR.nth htr hi
        refine ⟨vs.toList.getD i undef, fun w' _ => ?_, hn.vr⟩
        have hi' : i < vs.size := by simpa using hi
        simp [execOp, Instr.extract, he, List.getD, Array.getElem?_eq_getElem hi']
      · cases h
    · cases h
  | call c =>
    obtain ⟨callee, args, argTypes⟩ := c
    cases callee with
    | builtin b =>
      cases b with
      | len =>
        simp only [opQ] at h
        split at h
        · rename_i T x hTs hxs
          obtain ⟨z, h1, h2⟩ := lenK_sound hT h
          refine ⟨_, h1, QuietS.of fun μ a w hS => ?_⟩
          obtain ⟨v, h3, h4⟩ := h2 type hS.rel (hS.ev x)
          refine ⟨v, fun w' _ => ?_, h4⟩
          have e1 : args = #[x] := Array.toList_inj.1 hxs
          have e2 : argTypes = #[T] := Array.toList_inj.1 hTs
          subst e1; subst e2
          simp [execOp, resolve, invoke, builtin, h3 w']
        · cases h
      | _ => simp [opQ] at h
    | value f =>
      simp only [opQ] at h
      split at h
      · rename_i g hf
        obtain ⟨z, h1, ⟨fn, hfn, hname, hbody⟩, h2⟩ := callQ_sound hC h
        refine ⟨_, h1, fun {E} μ a w hS => ?_⟩
        have mk : ∀ w', Ext w w' → ∃ v, Calls P g (args.map a.eval) w' (fun e w'' => e = .returned v ∧ Ext w' w'') ∧ VR E st.ob μ w' z v ∧ z.rigid = true := fun w' hw => by
          have hS' := hS.ext hw
          exact h2 hS' (by simpa using evs hS' args.toList)
        obtain ⟨v, _, hv, hrig⟩ := mk w (Ext.refl w)
        refine ⟨v, fun w' hw => ?_, hv⟩
        obtain ⟨v', hc, hv', _⟩ := mk w' hw
        have he : v' = v := by
          cases z with
          | v g t d => simp only [AV.rigid] at hrig; rw [hv.simple hrig, hv'.simple hrig]
          | _ => simp [AV.rigid] at hrig
        subst he
        have hv0 := (hS.ext hw).ev f
        rw [hf] at hv0
        obtain ⟨hfe, _⟩ := hv0.clo
        have hrun : (execOp a.eval ⟨dst, .call ⟨.value f, args, argTypes⟩, type, pos, after, guard⟩).run P w' = .ok (.enter g (args.map a.eval)) w' := by
          have hn1 : ¬ fn.name = "runtime.NumGoroutine" := by simpa using hname
          have hb1 : ¬ fn.body = none := fun e => by rw [e] at hbody; cases hbody
          simp [execOp, resolve, hfe, Deferred.ofValue, invoke, callFunc, hfn, hn1, hb1]
        unfold Oper.quietAt
        rw [hrun]
        exact ⟨rfl, Calls.mono hc fun e w'' h => ⟨h.1, hw.trans h.2⟩⟩
      · cases h
    | invoke => simp [opQ] at h
  | _ => simp [opQ] at h

theorem runQ_sound (hC : CtxOK P C) {ops : Array Oper} : ∀ {l : List Oper} {st : St} {k : St → Option Rr}, runQ C ops l st k = some r →
    ∃ st', k st' = some r ∧ ∀ {E : Env} {μ : Mu} {a : Act} {w : World}, StR E st μ a w → ∀ Q : Act → Prop, (∀ a', StR E st' μ a' w → Q a') → wpQuiet P ops (Ext w) Q l a
  | [], st, k, h => ⟨st, h, fun hS Q hQ => wpQuiet_nil (hQ _ hS)⟩
  | o :: l, st, k, h => by
    rw [runQ] at h
    obtain ⟨st1, b, h1, h2⟩ := guardK_sound h
    cases b with
    | true =>
      simp only [if_true] at h1
      obtain ⟨z, h3, h4⟩ := opQ_sound hC h1
      obtain ⟨st', h5, h6⟩ := runQ_sound hC h3
      refine ⟨st', h5, fun {E μ a w} hS Q hQ => ?_⟩
      obtain ⟨hS1, hw⟩ := h2 hS
      obtain ⟨v, hv1, hv2⟩ := h4 μ a w hS1
      rw [wpQuiet, if_pos hw]
      exact ⟨v, fun w' hw' => hv1 w' hw', h6 (hS1.set (norm_VR hv2) o.dst) Q hQ⟩
    | false =>
      simp only [Bool.false_eq_true, if_false] at h1
      obtain ⟨st', h5, h6⟩ := runQ_sound hC h1
      refine ⟨st', h5, fun {E μ a w} hS Q hQ => ?_⟩
      obtain ⟨hS1, hw⟩ := h2 hS
      rw [wpQuiet, if_neg (by rw [hw]; simp)]
      exact h6 (hS1.set (x := .tup .nil) ⟨#[], rfl, trivial⟩ o.dst) Q hQ

/-! ### what is forgotten at a region's beginning -/
theorem maskL_len (m : Nat) : ∀ (l : List AV) (i : Nat), (maskL m l i).length = l.length
  | [], _ => rfl
  | x :: l, i => by simp [maskL, maskL_len m l]
theorem maskL_get (m : Nat) : ∀ (l : List AV) (i j : Nat) (h : j < (maskL m l i).length), (maskL m l i)[j] = .dead ∨ ∃ h' : j < l.length, (maskL m l i)[j] = l[j]
  | [], _, j, h => by simp [maskL] at h
  | x :: l, i, 0, h => by
    simp only [maskL, List.getElem_cons_zero]
    split
    · exact .inr ⟨by simp, rfl⟩
    · exact .inl rfl
  | x :: l, i, j + 1, h => by
    simp only [maskL, List.length_cons] at h
    rcases maskL_get m l (i + 1) j (by omega) with h1 | ⟨h1, h2⟩
    · exact .inl (by simpa [maskL] using h1)
    · exact .inr ⟨by simpa using h1, by simpa [maskL] using h2⟩

theorem StR.mask {st : St} {a : Act} (hS : StR E st μ a w) (m : Nat) : StR E { st with sl := maskL m st.sl 0 } μ a w := by
  refine ⟨hS.rel, ⟨by simpa [maskL_len] using hS.slots.1, fun i hi => ?_⟩, hS.defers⟩
  rcases maskL_get m st.sl 0 i hi with h | ⟨h1, h2⟩
  · simp only [h]; trivial
  · simp only [h2]; exact hS.slots.2 i h1

theorem StR.drop {st : St} {a : Act} (hS : StR E st μ a w) (n : Nat) : StR E (st.drop n) μ a w := by
  have h0 := hS.kill n
  have hsub : Sub (st.kill n).ob ((st.kill n).ob.del n) := ⟨fun m o' h => by
    rw [Store.get_del] at h
    split at h
    · cases h
    · exact ⟨o', h, Like.refl _⟩⟩
  have hk : ∀ m, m ≠ n → Keeps (st.kill n).ob μ ((st.kill n).ob.del n) μ m := fun m hm o ho => ⟨o, by rw [Store.get_del, if_neg hm]; exact ho, Like.refl _, rfl, rfl⟩
  have hfree := kill_free st n
  refine ⟨h0.rel.sub hsub fun m o' h => ?_, ?_, hS.defers⟩
  · have h : ((st.kill n).ob.del n).get m = some o' := h
    rw [Store.get_del] at h
    split at h
    · cases h
    · rename_i hm
      exact (h0.rel.objs m o' h).move hsub.moves (fun k hk' => hk k fun e => hfree (.inl ⟨m, o', h, hm, e ▸ hk'⟩)) (fun _ _ => rfl) rfl rfl
  · exact h0.slots.move hsub.moves fun x hx k hk' => hk k fun e => hfree (.inr ⟨x, hx, e ▸ hk'⟩)
theorem StR.drops {a : Act} : ∀ {l : List Nat} {st : St}, StR E st μ a w → StR E (st.drops l) μ a w
  | [], _, h => h
  | n :: l, st, h => StR.drops (l := l) (st := st.drop n) (h.drop n)
theorem StR.scrubAt {st : St} {a : Act} (hS : StR E st μ a w) (M : Masks) (key : Nat) : StR E (scrubAt M key st) μ a w := by
  unfold Go.Eng.scrubAt
  split
  · exact hS
  · exact (hS.mask _).drops
theorem StR.scrub {st : St} {a : Act} (hS : StR E st μ a w) (M : Masks) (c : Code) : StR E (scrub M c st) μ a w := by
  unfold Go.Eng.scrub
  split
  · exact hS
  · exact hS.scrubAt M _

/-- code goes to an exit and a state -/
def Goes (P : Program) (c : Code) (st : St) (e : Ex) (st' : St) : Prop :=
  ∀ {E : Env} {μ : Mu} {a : Act} {w : World}, StR E st μ a w → ∀ Q : Exit → Act → World → Prop, (∀ μ' a' w', StR E st' μ' a' w' → Q e.ex a' w') → c.wp P Q a w

theorem iter_sound {c : Code} {body : St → (Ex → St → Option Rr) → Option Rr}
    (hb : ∀ {st : St} {k : Ex → St → Option Rr}, body st k = some r → ∃ e st', k e st' = some r ∧ Goes P c st e st') :
    ∀ {m : Nat} {st : St} {k : Ex → St → Option Rr}, iter m body st k = some r →
      ∃ e st', k e st' = some r ∧ ∀ {E : Env} {μ : Mu} {a : Act} {w : World}, StR E st μ a w → ∀ Q : Exit → Act → World → Prop, (∀ μ' a' w', StR E st' μ' a' w' → Q e.ex a' w') → Code.rounds P c Q m a w
  | 0, _, _, h => by simp [iter] at h
  | m + 1, st, k, h => by
    rw [iter] at h
    obtain ⟨e, st1, h1, h2⟩ := hb h
    cases e with
    | normal =>
      obtain ⟨e', st', h3, h4⟩ := iter_sound hb h1
      refine ⟨e', st', h3, fun hS Q hQ => ?_⟩
      rw [rounds_succ]
      exact h2 hS _ fun μ' a' w' hS' => h4 hS' Q hQ
    | exit id => exact ⟨_, st1, h1, fun hS Q hQ => by rw [rounds_succ]; exact h2 hS _ hQ⟩
    | ret => exact ⟨_, st1, h1, fun hS Q hQ => by rw [rounds_succ]; exact h2 hS _ hQ⟩

/-- a loop's worth is what its code does -/
def LoopS (P : Program) (c : Code) (G : LoopC) : Prop :=
  ∀ {Rr : Type} {n : Nat} {st : St} {k : Ex → St → Option Rr} {r : Rr}, G Rr n st k = some r → ∃ e st', k e st' = some r ∧ Goes P (.loop c) st e st'
def CodeS (P : Program) (c : Code) (G : LoopC) : Prop :=
  ∀ {Rr : Type} {n : Nat} {st : St} {k : Ex → St → Option Rr} {r : Rr}, G Rr n st k = some r → ∃ e st', k e st' = some r ∧ Goes P c st e st'
def LOK (P : Program) (LP : Loops) : Code → Prop
  | .seq a b => LOK P LP a ∧ match joinOf LP b with
    | some G => CodeS P b G
    | none => LOK P LP b
  | .cond _ a b => LOK P LP a ∧ LOK P LP b
  | .block _ c => LOK P LP c
  | .loop c => match (firstRegion c).bind LP with
    | some G => LoopS P c G
    | none => LOK P LP c
  | _ => True

theorem body_sound {M : Masks} {c : Code} {ex : St → (Ex → St → Option Rr) → Option Rr} (ih : ∀ {st : St} {k : Ex → St → Option Rr}, ex st k = some r → ∃ e st', k e st' = some r ∧ Goes P c st e st')
    {st : St} {kk : Ex → St → Option Rr} (h : (ex st fun e st' => match e with | .normal => kk .normal (scrub M c st') | e => kk e st') = some r) :
    ∃ e st', kk e st' = some r ∧ Goes P c st e st' := by
  obtain ⟨e, st1, h1, h2⟩ := ih h
  cases e with
  | normal => exact ⟨_, _, h1, fun hS Q hQ => h2 hS Q fun μ' a' w' hS' => hQ _ _ _ (hS'.scrub M c)⟩
  | exit id => exact ⟨_, _, h1, h2⟩
  | ret => exact ⟨_, _, h1, h2⟩

end
end Go.Eng

/- The engine: drawn regions in whatever order. -/
namespace Go.Eng

section
variable {P : Program} {E : Env} {μ : Mu} {w : World}

theorem set_getD (st : St) (d : Option Nat) (x : AV) (j : Nat) : (st.set d x).sl.getD j .dead = if d = some j ∧ j < st.sl.length then x else st.sl.getD j .dead := by
  cases d with
  | none => simp [St.set]
  | some d =>
    simp only [St.set, List.getD]
    by_cases h : d = j
    · subst h
      by_cases hl : d < st.sl.length
      · simp [hl]
      · simp [hl]
    · rw [List.getElem?_set_ne h, if_neg (by simp [h])]
theorem set_len (st : St) (d : Option Nat) (x : AV) : (st.set d x).sl.length = st.sl.length := by cases d <;> simp [St.set]
theorem set_ob (st : St) (d : Option Nat) (x : AV) : (st.set d x).ob = st.ob := by cases d <;> rfl

theorem sig_len {ops : Array Oper} {outs : List Out} {st : St} : ∀ L, (sig ops outs st L).sl.length = st.sl.length
  | [] => rfl
  | i :: L => by rw [sig, St.out, set_len]; exact sig_len L

/-- a slot's writer is told by its number -/
def Inj (ops : Array Oper) : Prop := ∀ i j d, dstOf ops i = some d → dstOf ops j = some d → i = j
def InjN (outs : List Out) : Prop := ∀ i j n, newOf outs i = some n → newOf outs j = some n → i = j

theorem sig_out {ops : Array Oper} {outs : List Out} {st : St} {d : Nat} : ∀ L, (∀ i ∈ L, dstOf ops i ≠ some d) → (sig ops outs st L).sl.getD d .dead = st.sl.getD d .dead
  | [], _ => rfl
  | i :: L, h => by
    rw [sig, St.out, set_getD, if_neg (fun e => h i (by simp) e.1)]
    exact sig_out L fun j hj => h j (by simp [hj])
theorem sig_in {ops : Array Oper} {outs : List Out} {st : St} {d i : Nat} (hI : Inj ops) (hi : dstOf ops i = some d) (hd : d < st.sl.length) : ∀ L, i ∈ L → (sig ops outs st L).sl.getD d .dead = (outs.getD i (.dead, none)).1
  | j :: L, h => by
    rw [sig, St.out, set_getD]
    by_cases e : dstOf ops j = some d
    · rw [if_pos ⟨e, by show d < (sig ops outs st L).sl.length; rw [sig_len]; exact hd⟩, hI j i d e hi]
    · rw [if_neg (fun h' => e h'.1)]
      rcases List.mem_cons.1 h with rfl | h'
      · exact absurd hi e
      · exact sig_in hI hi hd L h'
theorem sig_same {ops : Array Oper} {outs : List Out} {st : St} {d : Nat} (hI : Inj ops) {L L' : List Nat} (h : ∀ i, dstOf ops i = some d → (i ∈ L ↔ i ∈ L')) :
    (sig ops outs st L).sl.getD d .dead = (sig ops outs st L').sl.getD d .dead := by
  by_cases hd : d < st.sl.length
  · by_cases he : ∃ i ∈ L, dstOf ops i = some d
    · obtain ⟨i, h1, h2⟩ := he
      rw [sig_in hI h2 hd L h1, sig_in hI h2 hd L' ((h i h2).1 h1)]
    · rw [sig_out L fun i h1 h2 => he ⟨i, h1, h2⟩, sig_out L' fun i h1 h2 => he ⟨i, (h i h2).2 h1, h2⟩]
  · have g : ∀ M, (sig ops outs st M).sl.getD d .dead = .dead := fun M => by
      simp only [List.getD]
      rw [List.getElem?_eq_none (by rw [sig_len]; omega)]; rfl
    rw [g, g]

theorem out_get (st : St) (d : Option Nat) (x : Out) (n : Nat) : (st.out d x).ob.get n = match x.2 with | none => st.ob.get n | some (m, o) => if n = m then some o else st.ob.get n := by
  rw [St.out, set_ob]
  cases x.2 with
  | none => rfl
  | some p => exact Store.get_put _ _ _ _
theorem sigo_out {ops : Array Oper} {outs : List Out} {st : St} {n : Nat} : ∀ L, (∀ i ∈ L, newOf outs i ≠ some n) → (sig ops outs st L).ob.get n = st.ob.get n
  | [], _ => rfl
  | i :: L, h => by
    rw [sig, out_get]
    have h1 := h i (by simp)
    have h2 := sigo_out (ops := ops) (st := st) L fun j hj => h j (by simp [hj])
    unfold newOf at h1
    cases hx : (outs.getD i (.dead, none)).2 with
    | none => exact h2
    | some p =>
      rw [hx] at h1
      simp only
      rw [if_neg (fun e => h1 (by simp [e]))]
      exact h2
theorem sigo_in {ops : Array Oper} {outs : List Out} {st : St} {n i : Nat} (hI : InjN outs) (hi : newOf outs i = some n) : ∀ L, i ∈ L → (sig ops outs st L).ob.get n = (outs.getD i (.dead, none)).2.map (·.2)
  | j :: L, h => by
    rw [sig, out_get]
    by_cases e : newOf outs j = some n
    · rw [hI j i n e hi]
      unfold newOf at hi
      cases hx : (outs.getD i (.dead, none)).2 with
      | none => rw [hx] at hi; cases hi
      | some p =>
        rw [hx] at hi
        simp only [Option.map_some, Option.some.injEq] at hi ⊢
        rw [if_pos hi.symm]
    · have h' : i ∈ L := by
        rcases List.mem_cons.1 h with rfl | h'
        · exact absurd hi e
        · exact h'
      have h2 := sigo_in (ops := ops) (st := st) hI hi L h'
      unfold newOf at e
      cases hx : (outs.getD j (.dead, none)).2 with
      | none => exact h2
      | some p =>
        rw [hx] at e
        simp only
        rw [if_neg (fun e' => e (by simp [e']))]
        exact h2
theorem sigo_same {ops : Array Oper} {outs : List Out} {st : St} {n : Nat} (hI : InjN outs) {L L' : List Nat} (h : ∀ i, newOf outs i = some n → (i ∈ L ↔ i ∈ L')) :
    (sig ops outs st L).ob.get n = (sig ops outs st L').ob.get n := by
  by_cases he : ∃ i ∈ L, newOf outs i = some n
  · obtain ⟨i, h1, h2⟩ := he
    rw [sigo_in hI h2 L h1, sigo_in hI h2 L' ((h i h2).1 h1)]
  · rw [sigo_out L fun i h1 h2 => he ⟨i, h1, h2⟩, sigo_out L' fun i h1 h2 => he ⟨i, (h i h2).2 h1, h2⟩]

/-- less is known -/
theorem StR.below {m s : St} {a : Act} (hS : StR E s μ a w) (hlen : m.sl.length = s.sl.length) (hsl : ∀ d, m.sl.getD d .dead = .dead ∨ m.sl.getD d .dead = s.sl.getD d .dead)
    (hob : ∀ n o, m.ob.get n = some o → s.ob.get n = some o)
    (hcl : ∀ k, (∃ n o, m.ob.get n = some o ∧ k ∈ o.names) ∨ (∃ x ∈ m.sl, k ∈ x.names) → m.ob.get k = s.ob.get k) : StR E m μ a w := by
  have hsub : Sub s.ob m.ob := ⟨fun n o' h => ⟨o', hob n o' h, Like.refl _⟩⟩
  have hk : ∀ k, m.ob.get k = s.ob.get k → Keeps s.ob μ m.ob μ k := fun k e o ho => ⟨o, by rw [e]; exact ho, Like.refl _, rfl, rfl⟩
  have h1 : SlotsR E s.ob μ w m.sl a.tmps := by
    refine ⟨hlen.trans hS.slots.1, fun i hi => ?_⟩
    have e : m.sl.getD i .dead = m.sl[i] := by simp [List.getD, List.getElem?_eq_getElem hi]
    rcases hsl i with h | h
    · rw [← e, h]; trivial
    · rw [← e, h]; exact hS.slot i
  refine ⟨hS.rel.sub hsub fun n o' h => ?_, ?_, hS.defers⟩
  · exact (hS.rel.objs n o' (hob n o' h)).move hsub.moves (fun k hk' => hk k (hcl k (.inl ⟨n, o', h, hk'⟩))) (fun _ _ => rfl) rfl rfl
  · exact h1.move hsub.moves fun x hx k hk' => hk k (hcl k (.inr ⟨x, hx, hk'⟩))
theorem StR.same {m s : St} {a : Act} (hS : StR E s μ a w) (hlen : m.sl.length = s.sl.length) (hsl : ∀ d, m.sl.getD d .dead = s.sl.getD d .dead) (hob : ∀ n, m.ob.get n = s.ob.get n) : StR E m μ a w :=
  hS.below hlen (fun d => .inr (hsl d)) (fun n _ h => (hob n) ▸ h) fun k _ => hob k
end

theorem mem_union {l m : List Nat} {x : Nat} : x ∈ union l m ↔ x ∈ l ∨ x ∈ m := by
  unfold union
  rw [List.mem_append, List.mem_filter]
  by_cases h : x ∈ l
  · simp [h]
  · simp [h]
theorem ancs_in {ops : Array Oper} {L : List Nat} (hc : ∀ i ∈ L, ∀ j ∈ deps ops i, j ∈ L) : ∀ (k : Nat) (l : List Nat), (∀ i ∈ l, i ∈ L) → ∀ i ∈ ancs ops k l, i ∈ L
  | 0, l, h => h
  | k + 1, l, h => ancs_in hc k _ fun i hi => by
    rcases mem_union.1 hi with h1 | h1
    · exact h i h1
    · obtain ⟨j, h2, h3⟩ := List.mem_flatMap.1 h1
      exact hc j (h j h2) i h3
theorem ancs_sup {ops : Array Oper} : ∀ (k : Nat) (l : List Nat), ∀ i ∈ l, i ∈ ancs ops k l
  | 0, _, _, h => h
  | k + 1, _, i, h => ancs_sup k _ i (mem_union.2 (.inl h))

theorem maskO_len (keep : List Nat) : ∀ (l : List AV) (i : Nat), (maskO keep l i).length = l.length
  | [], _ => rfl
  | _ :: l, i => by simp [maskO, maskO_len keep l]
theorem maskO_get (keep : List Nat) : ∀ (l : List AV) (i d : Nat), (maskO keep l i).getD d .dead = if keep.contains (i + d) then l.getD d .dead else .dead
  | [], i, d => by simp [maskO]
  | x :: l, i, 0 => by simp [maskO]
  | x :: l, i, d + 1 => by
    have := maskO_get keep l (i + 1) d
    rw [show i + 1 + d = i + (d + 1) by omega] at this
    simpa [maskO] using this

end Go.Eng

/- The engine: drawn regions in whatever order. -/
namespace Go.Eng
section
variable {P : Program} {C : Ctx} {Rr : Type} {r : Rr}

def outAt (outs : List Out) (i : Nat) : Out := outs.getD i (.dead, none)
/-- the slots that op number i waits for hold what was given -/
def Has (ops : Array Oper) (outs : List Out) (i : Nat) (s : St) : Prop := ∀ j ∈ deps ops i, ∀ d, dstOf ops j = some d → s.sl.getD d .dead = (outAt outs j).1
def GuardF (ops : Array Oper) (outs : List Out) (i : Nat) (o : Oper) (b : Bool) : Prop :=
  ∀ {E : Env} {s : St} {μ : Mu} {a : Act} {w : World}, StR E s μ a w → Has ops outs i s → Region.wanted o (yielded ops a.tmps) = b
theorem guardD_sound {ops : Array Oper} {i : Nat} {o : Oper} {outs : List Out} {yes no : List Out → Option Rr} (h : guardD ops i o outs yes no = some r) :
    ∃ b, (if b = true then yes outs else no outs) = some r ∧ GuardF ops outs i o b := by
  unfold guardD at h
  split at h
  · rename_i hg
    exact ⟨true, by simpa using h, fun hS hh => by simp [Region.wanted, hg]⟩
  · rename_i j want hg
    split at h
    · rename_i hc
      simp only [Bool.and_eq_true, List.contains_iff_mem] at hc
      obtain ⟨hj, hd⟩ := hc
      obtain ⟨d, hd⟩ := Option.isSome_iff_exists.1 hd
      have hdj : (ops[j]?).bind (·.dst) = some d := hd
      split at h
      · rename_i g b ho
        have hset : ∀ c : Bool, b = c → outs.set j (.v g .bool c, none) = outs := fun c e => by
          subst e
          apply List.ext_getElem?
          intro n
          by_cases hn : j = n
          · subst hn
            rw [ho, List.getElem?_set_self (by by_cases hl : j < outs.length; exact hl; rw [List.getElem?_eq_none (by omega)] at ho; cases ho)]
          · rw [List.getElem?_set_ne hn]
        have key : ∀ {E : Env} {s : St} {μ : Mu} {a : Act} {w : World}, StR E s μ a w → Has ops outs i s → yielded ops a.tmps j = some b := by
          intro E s μ a w hS hh
          have h1 := hS.slot d
          have e : s.sl.getD d .dead = .v g .bool b := by
            rw [hh j hj d hd]; unfold outAt; simp [List.getD, ho]
          rw [e] at h1
          have h2 := h1.bool
          have h3 := slot_lt hS (d := d) (by rw [e]; intro e; cases e)
          have h4 : a.tmps[d]? = some (.bool b) := by
            rw [Array.getElem?_eq_getElem h3]
            simpa [Array.getD, h3] using h2
          simp [yielded, hdj, h4]
        cases b with
        | true =>
          rw [if_pos rfl, hset true rfl] at h
          refine ⟨want, by cases want <;> simpa using h, fun hS hh => by simp [Region.wanted, hg, key hS hh]⟩
        | false =>
          rw [if_neg (by simp), hset false rfl] at h
          refine ⟨!want, by cases want <;> simpa using h, fun hS hh => by cases want <;> simp [Region.wanted, hg, key hS hh]⟩
      · rename_i ho
        refine ⟨false, by simpa using h, fun {E s μ a w} hS hh => ?_⟩
        have h1 := hS.slot d
        have e : s.sl.getD d .dead = .tup .nil := by
          rw [hh j hj d hd]; unfold outAt; simp [List.getD, ho]
        rw [e] at h1
        have h2 : a.tmps.getD d undef = undef := by
          obtain ⟨vs, e, ht⟩ := h1
          rw [e]
          cases hv : vs.toList with
          | nil =>
            have : vs = #[] := by simpa using hv
            rw [this]; rfl
          | cons x r => rw [hv] at ht; exact ht.elim
        have h3 : yielded ops a.tmps j = none := by
          unfold yielded
          rw [hdj]
          simp only [Option.bind_some]
          by_cases hz : d < a.tmps.size
          · have : a.tmps[d]? = some undef := by
              rw [Array.getElem?_eq_getElem hz]
              simpa [Array.getD, hz] using h2
            rw [this]; rfl
          · rw [Array.getElem?_eq_none (Nat.le_of_not_lt hz)]
        simp [Region.wanted, hg, h3]
      · cases h
    · cases h

theorem plainV_any : {x : AV} → {k : Bool → (t : Ty) → t.D → Option Rr} → plainV x k = some r → ∃ g t d, k g t d = some r ∧ ∀ (R' : Type) (k' : Bool → (t : Ty) → t.D → Option R'), plainV x k' = k' g t d
  | .v g t d, k, h => ⟨g, t, d, h, fun _ _ => rfl⟩
  | .ag l, k, h => by
    obtain ⟨g, t, d, h1, h2⟩ := plainV_any (x := l) h
    exact ⟨g, t, d, h1, fun R' k' => h2 R' k'⟩
  | .nil, k, h => ⟨true, .unit, (), h, fun _ _ => rfl⟩
  | .cons x y, k, h => by
    rw [plainV] at h
    obtain ⟨g1, t1, d1, h1, h2⟩ := plainV_any (x := x) h
    obtain ⟨g2, t2, d2, h3, h4⟩ := plainV_any (x := y) h1
    exact ⟨_, _, _, h3, fun R' k' => by rw [plainV, h2, h4]⟩
  | .sl _, _, h | .sub .., _, h | .bs .., _, h | .pe .., _, h | .pb .., _, h | .pr .., _, h | .nl _, _, h | .nils, _, h | .clo .., _, h | .tup _, _, h | .dead, _, h => by simp [plainV] at h
theorem plainT_any {T : Ty} {x : AV} {k : Bool → T.D → Option Rr} (h : plainT T x k = some r) : ∃ g d, k g d = some r ∧ ∀ (R' : Type) (k' : Bool → T.D → Option R'), plainT T x k' = k' g d := by
  unfold plainT at h
  split at h
  · rename_i hx
    cases T with
    | sl t => exact ⟨_, _, h, fun R' k' => by unfold plainT; rw [if_pos hx]; rfl⟩
    | _ => simp [nilsK] at h
  · rename_i hx
    obtain ⟨g, t, d, h1, h2⟩ := plainV_any h
    split at h1
    · rename_i ht
      subst ht
      exact ⟨g, d, h1, fun R' k' => by unfold plainT; rw [if_neg hx, h2, dif_pos rfl]⟩
    · cases h1
theorem listK_any {t : Ty} : ∀ {parts : List (Nat × AV)} {l0 : List t.D} {g0 : Bool} {k : Bool → List t.D → Option Rr}, listK t l0 parts g0 k = some r →
    ∃ g l, k g l = some r ∧ ∀ (R' : Type) (k' : Bool → List t.D → Option R'), listK t l0 parts g0 k' = k' g l
  | [], l0, g0, k, h => ⟨g0, l0, h, fun _ _ => rfl⟩
  | (i, x) :: p, l0, g0, k, h => by
    rw [listK] at h
    split at h
    · rename_i hi
      obtain ⟨g, d, h1, h2⟩ := plainT_any h
      obtain ⟨g', l, h3, h4⟩ := listK_any h1
      exact ⟨g', l, h3, fun R' k' => by rw [listK, if_pos hi, h2, h4]⟩
    · cases h
/-- an operation that makes an object depends on its operands alone -/
theorem alloc_any (hO : ∀ T, C.OW T = false) {m s : St} {o : Oper} {k : AV → St → Option Rr} (ha : allocB o.op = true) (hp : buildsPlain m o = true) (h : opK C 0 m o k = some r)
    (he : ∀ x ∈ o.op.operands, s.ev x = m.ev x) :
    ∃ z ob, k z (m.new (nm (o.dst.getD 0) 0) ob) = some r ∧ ∀ (R' : Type) (k' : AV → St → Option R'), opK C 0 s o k' = k' z (s.new (nm (o.dst.getD 0) 0) ob) := by
  obtain ⟨dst, op, type, pos, after, guard⟩ := o
  cases op with
  | alloc T =>
    simp only [opK] at h ⊢
    cases hT : C.TT T with
    | none => simp [hT] at h
    | some t =>
      simp only [hT] at h ⊢
      split at h
      · rename_i hs
        rw [if_neg (by simp [hO])] at h
        exact ⟨_, _, h, fun R' k' => by rw [if_pos hs, if_neg (by simp [hO])]⟩
      · cases h
  | buildSlice T len parts =>
    have hn : (parts.toList.flatMap fun p => (m.ev p.2).names) = [] := by simpa [buildsPlain] using hp
    have hev : ∀ p ∈ parts.toList, s.ev p.2 = m.ev p.2 := fun p hp => he _ (by
      simp only [Op.operands, List.mem_toArray, List.mem_map]
      exact ⟨p, hp, rfl⟩)
    have hns : (parts.toList.flatMap fun p => (s.ev p.2).names) = [] := by
      rw [List.flatMap_eq_nil_iff] at hn ⊢
      intro p hp
      rw [hev p hp]
      exact hn p hp
    have hl : (parts.toList.map fun x => (x.1, s.ev x.2)) = (parts.toList.map fun x => (x.1, m.ev x.2)) := List.map_congr_left fun p hp => by rw [hev p hp]
    simp only [opK] at h ⊢
    cases hT : C.TT T with
    | none => simp [hT] at h
    | some t =>
      simp only [hT] at h ⊢
      cases t with
      | sl t =>
        simp only at h ⊢
        split at h
        · rename_i hc
          have h' : listK t (List.replicate len t.zero) (parts.toList.map fun x => (x.1, m.ev x.2)) true (fun g l => k (.sl (nm (dst.getD 0) 0)) (m.new (nm (dst.getD 0) 0) (.arr g t l))) = some r := by
            rw [hn] at h
            exact h
          obtain ⟨g, l, h1, h2⟩ := listK_any h'
          refine ⟨_, _, h1, fun R' k' => ?_⟩
          rw [if_pos hc, hns]
          have h3 := h2 R' (fun g l => k' (.sl (nm (dst.getD 0) 0)) (s.new (nm (dst.getD 0) 0) (.arr g t l)))
          rw [← hl] at h3
          exact h3
        · cases h
      | _ => simp at h
  | makeSlice T l c =>
    have h1 : s.ev l = m.ev l := he _ (by simp [Op.operands])
    have h2 : s.ev c = m.ev c := he _ (by simp [Op.operands])
    simp only [opK, makeSliceK, h1, h2] at h ⊢
    cases hT : C.TT T with
    | none => simp [hT] at h
    | some t =>
      simp only [hT] at h ⊢
      cases t with
      | sl t =>
        simp only at h ⊢
        split at h
        · rename_i l' c' _ _
          unfold makeI at h ⊢
          split at h
          · rename_i hc
            split at h
            · rename_i hp'
              exact ⟨_, _, h, fun R' k' => by simp only [if_pos hc, if_pos hp']⟩
            · cases h
          · cases h
        · cases h
      | _ => simp at h
  | _ => simp [allocB] at ha
end
end Go.Eng

