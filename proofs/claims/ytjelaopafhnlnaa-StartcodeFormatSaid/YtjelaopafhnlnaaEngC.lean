/- The engine: a machine that runs loaded code on plain data, and its soundness against the model. -/
import Derived.Test.YtjelaopafhnlnaaEngB
import Derived.ChangeArms
import Derived.DataReads
import Derived.Below
import Derived.OpenShut
/- The engine, part 35: the loops of a function's code. -/
namespace Go.Eng

/-- the code of a loop, without its own 'loop', by its first region -/
def getLoop? (id : Nat) : Code → Option Code
  | .seq a b | .cond _ a b => match getLoop? id a with
    | some c => some c
    | none => getLoop? id b
  | .block _ c | .scope c => getLoop? id c
  | .loop c => if firstRegion c = some id then some c else getLoop? id c
  | _ => none
/-- the code behind a statement, by its first region -/
def getJoin? (id : Nat) : Code → Option Code
  | .seq a b => match getJoin? id a with
    | some c => some c
    | none => if firstRegion b = some id then some b else getJoin? id b
  | .cond _ a b => match getJoin? id a with
    | some c => some c
    | none => getJoin? id b
  | .block _ c | .scope c | .loop c => getJoin? id c
  | _ => none
def getJoin (f : Func) (id : Nat) : Code := ((f.body.bind (getJoin? id))).getD .skip
def getLoop (f : Func) (id : Nat) : Code := ((f.body.bind (getLoop? id))).getD .skip


/-! ### tables -/
def maskOf (l : List (Nat × Nat × List Nat)) : Masks := fun k => (l.find? fun p => p.1 == k).map (·.2)
def noLoops : Loops := fun _ => none
def addL (L : Loops) (id : Nat) (G : LoopC) : Loops := fun k => if k = id then some G else L k
def addF (C : Ctx) (f : Nat) (G : Callee) : Ctx := { C with CT := fun k => if k = f then some G else C.CT k }
theorem CtxOK.add {P : Program} {C : Ctx} (h : CtxOK P C) {f : Nat} {G : Callee} (hs : Sound P f G) (fn : Func) (h1 : P.funcs[f]? = some fn)
    (h2 : (fn.name == "runtime.NumGoroutine") = false) (h3 : fn.body.isNone = false) : CtxOK P (addF C f G) where
  tt := h.tt
  eb := h.eb
  depth := h.depth
  ct := fun k G' hk => by
    simp only [addF] at hk
    split at hk
    · rename_i he; subst he; obtain rfl := Option.some.inj hk; exact ⟨hs, fn, h1, h2, h3⟩
    · exact h.ct k G' hk
theorem CtxOK.of {P : Program} {C : Ctx} (h : CtxT P C) (hc : ∀ k, C.CT k = none) : CtxOK P C where
  tt := h.tt
  eb := h.eb
  depth := h.depth
  ct := fun k G' hk => by rw [hc] at hk; cases hk

/-! ### words of the printed texts -/
def lett {α β : Type} (v : α) (f : α → β) : β := f v
abbrev wi64 (n : Int) : Int := IntKind.wrap .i64 n
abbrev wi32 (n : Int) : Int := IntKind.wrap .i32 n
abbrev wi16 (n : Int) : Int := IntKind.wrap .i16 n
abbrev wi8 (n : Int) : Int := IntKind.wrap .i8 n
abbrev wu64 (n : Int) : Int := IntKind.wrap .u64 n
abbrev wu32 (n : Int) : Int := IntKind.wrap .u32 n
abbrev wu16 (n : Int) : Int := IntKind.wrap .u16 n
abbrev wu8 (n : Int) : Int := IntKind.wrap .u8 n

end Go.Eng

/- The engine, part 36: a law's arguments, read as data, are the engine's data; a law that answers true. -/
namespace Go.Eng

/-- types of arguments: no pointers, no slices of nothing -/
def Ty.okArg : Ty → Bool
  | .int _ | .bool | .str | .unit => true
  | .sl t => t.okArg && decide (0 < t.size)
  | .arr _ t => t.okArg
  | .pair a b => a.okArg && b.okArg
  | .opq _ => false
def argSD (t : Ty) : SD := .v t.flat t

theorem exists_list {α : Type} {Q : Nat → α → Prop} : ∀ n, (∀ i, i < n → ∃ d, Q i d) → ∃ l : List α, l.length = n ∧ ∀ i (h : i < l.length), Q i l[i]
  | 0, _ => ⟨[], rfl, fun i h => by simp at h⟩
  | n + 1, h => by
    obtain ⟨l, h1, h2⟩ := exists_list n fun i hi => h i (by omega)
    obtain ⟨d, hd⟩ := h n (by omega)
    refine ⟨l ++ [d], by simp [h1], fun i hi => ?_⟩
    by_cases hc : i < l.length
    · rw [List.getElem_append_left hc]; exact h2 i hc
    · have : i = n := by simp at hi; omega
      subst this
      rw [List.getElem_append_right (by omega)]
      simpa [h1] using hd

section
variable {H : Type} {enc : TypeId × Value → H} {P : Program} {W : World} {spare : Nat → Bool} {held : Bool}

theorem TOK.cellsOf {t : Ty} {T : TypeId} (h : TOK P t T) : P.cellsOf T = t.size := by
  obtain ⟨i, z, hi, hs, _⟩ := h.head
  simp [Program.cellsOf, hi, hs]
theorem cell_there {a : Addr} {v : Value} (h : W.cell? a = some v) : a.spot = none ∧ a.block < W.heap.size := by
  unfold World.cell? at h
  split at h
  · rename_i c e fz hb
    refine ⟨?_, (Array.getElem?_eq_some_iff.1 hb).1⟩
    cases hs : a.spot with
    | none => rfl
    | some s => simp [hs] at h
  · cases h
theorem cells_there {a : Addr} {n : Nat} {cs : List Value} (h : W.cells? 0 a n = some cs) (hn : 0 < n) : a.spot = none ∧ a.block < W.heap.size ∧ CellsAt W a.block a.off cs := by
  obtain ⟨_, h1, h2⟩ := World.cells?_some h
  have h0 := h2 0 hn
  rw [List.getElem?_eq_getElem (by omega)] at h0
  have h3 : a.add 0 = a := by simp [Addr.add]
  rw [h3] at h0
  obtain ⟨s1, s2⟩ := cell_there h0
  refine ⟨s1, s2, fun j hj => ?_⟩
  have h4 := h2 j (by omega)
  rw [add_of s1, List.getElem?_eq_getElem hj] at h4
  exact h4

theorem wf_ok {k : IntKind} {n : Int} (h : (Lit.int k n).wf = true) : ok k n := by
  simpa [Lit.wf, ok, IntKind.has] using h

theorem trod_R_F : ∀ (t : Ty), (∀ {T : TypeId} {fuel : Nat} {cs : List Value} {x : DataW H × List MemPlace}, t.okArg = true → TOK P t T → DataW.trod enc P W 0 spare held fuel T cs = some x →
      ∃ d : t.D, R W (fun b => b < W.heap.size) t d cs) ∧
    (∀ {r : List Field} {o n : Nat} {cs : List Value}, t.okArg = true → FOK P t r o → (∀ f ∈ r, ∃ y, DataW.trod enc P W 0 spare held n f.type ((cs.drop f.offset).take (P.cellsOf f.type)) = some y) →
      cs.length = o + t.size → ∃ d : t.D, R W (fun b => b < W.heap.size) t d (cs.drop o)) := by
  intro t
  induction t with
  | int k =>
    refine ⟨fun _ h hx => ?_, fun _ h => by simp [FOK] at h⟩
    simp only [TOK] at h
    obtain ⟨n, rfl, _, hw⟩ := DataW.trod_int h.2 hx
    exact ⟨n, by simp only [R]; exact ⟨trivial, wf_ok hw⟩⟩
  | bool =>
    refine ⟨fun _ h hx => ?_, fun _ h => by simp [FOK] at h⟩
    simp only [TOK] at h
    obtain ⟨b, rfl, _⟩ := DataW.trod_bool h.2 hx
    exact ⟨b, by simp only [R]⟩
  | str =>
    refine ⟨fun _ h hx => ?_, fun _ h => by simp [FOK] at h⟩
    simp only [TOK] at h
    obtain ⟨s, rfl, _⟩ := DataW.trod_string h.2 hx
    exact ⟨s, by simp only [R]⟩
  | sl t ih =>
    refine ⟨fun ha h hx => ?_, fun _ h => by simp [FOK] at h⟩
    simp only [Ty.okArg, Bool.and_eq_true, decide_eq_true_eq] at ha
    simp only [TOK] at h
    obtain ⟨_, e, hu, he⟩ := h
    rcases DataW.trod_slice hu hx with ⟨rfl, _⟩ | ⟨a, len, cap, elems, rest, n, _, rfl, _, _, hl, hm, hlen, hel, _, _⟩
    · exact ⟨[], by simp only [R]; exact ⟨none, 0, rfl, Nat.le_refl _, Nat.zero_le _, fun _ => rfl, fun x hx => by cases hx⟩⟩
    · have hc := he.cellsOf
      have each : ∀ i, i < len → ∃ d : t.D, ∃ es, R W (fun b => b < W.heap.size) t d es ∧ W.cells? 0 (a.add (i * t.size)) t.size = some es := by
        intro i hi
        have h1 := hel i hi
        rw [List.getElem?_eq_getElem (by omega), Option.bind_eq_some_iff, hc] at h1
        obtain ⟨es, h2, h3⟩ := h1
        obtain ⟨d, hd⟩ := ih.1 ha.1 he h3
        exact ⟨d, es, hd, h2⟩
      obtain ⟨l, h1, h2⟩ := exists_list len each
      have hmax : maxLen ≤ maxI := by decide
      refine ⟨l, ?_⟩
      simp only [R]
      refine ⟨some a, cap, by rw [h1], by omega, by omega, fun hh => (by cases hh), fun x hx hpos => ?_⟩
      obtain rfl := Option.some.inj hx
      obtain ⟨es0, _, h4⟩ := h2 0 hpos
      rw [show a.add (0 * t.size) = a by simp [Addr.add]] at h4
      obtain ⟨s1, s2, _⟩ := cells_there h4 ha.2
      refine ⟨s1, s2, s2, fun i hi => ?_⟩
      obtain ⟨es, h5, h6⟩ := h2 i hi
      rw [add_of s1] at h6
      exact ⟨es, h5, (cells_there h6 ha.2).2.2⟩
  | arr m t ih =>
    refine ⟨fun ha h hx => ?_, fun _ h => by simp [FOK] at h⟩
    simp only [Ty.okArg] at ha
    simp only [TOK] at h
    obtain ⟨hh, e, hu, he⟩ := h
    have hc := he.cellsOf
    rename_i T fuel cs x
    have hT : P.cellsOf T = m * t.size := by obtain ⟨i, z, hi, hs, _⟩ := hh; simp [Program.cellsOf, hi, hs]
    obtain ⟨xs, n, _, _, hlen, hxl, hall⟩ := DataW.trod_array hu hx
    have key : cs.length = m * t.size ∧ ∀ i, i < m → ∃ y, DataW.trod enc P W 0 spare held n e ((cs.drop (i * t.size)).take t.size) = some y :=
      ⟨by rw [hlen, hT], fun i hi => ⟨xs[i], by have h1 := hall i hi; rw [hc] at h1; exact h1.trans (List.getElem?_eq_getElem (by omega))⟩⟩
    obtain ⟨l, h1, h2⟩ := exists_list (Q := fun i d => R W (fun b => b < W.heap.size) t d ((cs.drop (i * t.size)).take t.size)) m fun i hi => by
      obtain ⟨y, hy⟩ := key.2 i hi
      exact ih.1 ha he hy
    exact ⟨l, by simp only [R]; exact ⟨h1, key.1, h2⟩⟩
  | unit =>
    refine ⟨fun _ h hx => ?_, fun _ h _ hl => ?_⟩
    · have hc := h.cellsOf
      simp only [TOK] at h
      obtain ⟨_, _, fs, hu, _⟩ := h
      obtain ⟨xs, n, _, _, hlen, _⟩ := DataW.trod_struct hu hx
      rw [hc] at hlen
      exact ⟨(), by simp only [R]; exact List.eq_nil_of_length_eq_zero hlen⟩
    · simp only [Ty.size, Nat.add_zero] at hl
      exact ⟨(), by simp only [R]; rw [List.drop_eq_nil_of_le (by omega)]⟩
  | pair a b iha ihb =>
    refine ⟨fun ha h hx => ?_, fun ha h hf hl => ?_⟩
    · simp only [Ty.okArg, Bool.and_eq_true] at ha
      have hc := h.cellsOf
      simp only [TOK] at h
      obtain ⟨_, _, fs, f, r, hu, hfs, h0, _, h1, h2⟩ := h
      obtain ⟨xs, n, _, _, hlen, hxl, hall⟩ := DataW.trod_struct hu hx
      have all : ∀ g ∈ f :: r, ∃ y, DataW.trod enc P W 0 spare held n g.type ((‹List Value›.drop g.offset).take (P.cellsOf g.type)) = some y := by
        intro g hg
        rw [← hfs] at hg
        obtain ⟨i, hi⟩ := List.getElem?_of_mem hg
        have h3 := hall i g (by simpa using hi)
        have h4 : i < xs.length := by rw [hxl]; simpa using (List.getElem?_eq_some_iff.1 hi).1
        exact ⟨_, h3.trans (List.getElem?_eq_getElem h4)⟩
      obtain ⟨y, hy⟩ := all f (by simp)
      rw [h0, List.drop_zero, h1.cellsOf] at hy
      obtain ⟨d1, e1⟩ := iha.1 ha.1 h1 hy
      obtain ⟨d2, e2⟩ := ihb.2 ha.2 h2 (fun g hg => all g (by simp [hg])) (by rw [hlen, hc]; rfl)
      exact ⟨(d1, d2), by simp only [R]; exact ⟨e1, e2⟩⟩
    · simp only [Ty.okArg, Bool.and_eq_true] at ha
      simp only [FOK] at h
      obtain ⟨f, r', rfl, ho, _, h1, h2⟩ := h
      obtain ⟨y, hy⟩ := hf f (by simp)
      rw [ho, h1.cellsOf] at hy
      obtain ⟨d1, e1⟩ := iha.1 ha.1 h1 hy
      obtain ⟨d2, e2⟩ := ihb.2 ha.2 h2 (fun g hg => hf g (by simp [hg])) (by rw [hl]; simp only [Ty.size]; omega)
      refine ⟨(d1, d2), ?_⟩
      simp only [R]
      refine ⟨e1, ?_⟩
      rw [List.drop_drop]
      exact e2
  | opq k => exact ⟨fun ha => by simp [Ty.okArg] at ha, fun ha => by simp [Ty.okArg] at ha⟩

theorem cellOk_one {base : Nat} {r : Reach} {T : TypeId} {v : Value} (h : Cell.okWide P W r base T v) : v.cells = #[v] := by
  cases v with
  | agg cs =>
    unfold Cell.okWide Cell.ok at h
    split at h <;> simp_all
  | _ => rfl
theorem shape_of {t : Ty} {T : TypeId} {v : Value} {base : Nat} {r : Reach} (h : TOK P t T) (hw : Value.okWide P W r base T v) : Shape t v := by
  unfold Value.okWide at hw
  cases t with
  | int | bool | str => simp only [TOK] at h; rw [h.2] at hw; exact ⟨fun h => by simp [Ty.isAgg] at h, fun _ => cellOk_one hw⟩
  | sl t => simp only [TOK] at h; obtain ⟨_, e, hu, _⟩ := h; rw [hu] at hw; exact ⟨fun h => by simp [Ty.isAgg] at h, fun _ => cellOk_one hw⟩
  | arr n t => simp only [TOK] at h; obtain ⟨_, e, hu, _⟩ := h; rw [hu] at hw; obtain ⟨cs, h1, _⟩ := hw; exact ⟨fun _ => ⟨cs, h1⟩, fun h => by simp [Ty.isAgg] at h⟩
  | unit => simp only [TOK] at h; obtain ⟨_, _, fs, hu, _⟩ := h; rw [hu] at hw; obtain ⟨cs, h1, _⟩ := hw; exact ⟨fun _ => ⟨cs, h1⟩, fun h => by simp [Ty.isAgg] at h⟩
  | pair a b => simp only [TOK] at h; obtain ⟨_, _, fs, f, r, hu, _⟩ := h; rw [hu] at hw; obtain ⟨cs, h1, _⟩ := hw; exact ⟨fun _ => ⟨cs, h1⟩, fun h => by simp [Ty.isAgg] at h⟩
  | opq k =>
    simp only [TOK] at h
    obtain ⟨_, d, hu, hd⟩ := h
    rw [hu] at hw
    cases k <;> cases d <;> simp [opqDesc] at hd <;> exact ⟨fun h => by simp [Ty.isAgg] at h, fun _ => cellOk_one hw⟩

/-- types of a law's arguments -/
def tokL (P : Program) : List Ty → List TypeId → Bool
  | [], [] => true
  | t :: ts, T :: Ts => t.okArg && tokB P t T && tokL P ts Ts
  | _, _ => false

theorem trodAll_args {μ : Mu} {base : Nat} : ∀ {ts : List Ty} {Ts : List TypeId} {vs : List Value} {ds : List (DataW H)} {p : List MemPlace}, tokL P ts Ts = true →
    DataW.TrodAll enc P W 0 spare held Ts vs ds p → (∀ (j : Nat) T v, Ts[j]? = some T → vs[j]? = some v → Value.okWide P W .any base T v) →
    ∃ d : LD (ts.map argSD), ArgsR (callEnv W [] μ fun _ => True) [] μ W (mkL (ts.map argSD) d) vs
  | [], [], [], _, _, _, _, _ => ⟨(), .nil⟩
  | t :: ts, T :: Ts, v :: vs, d :: ds, p, ht, hA, hv => by
    simp only [tokL, Bool.and_eq_true] at ht
    obtain ⟨⟨h1, h2⟩, h3⟩ := ht
    obtain ⟨p1, p2, ⟨fuel, hx⟩, hA', _⟩ := hA
    have htok := tokB_tok h2
    obtain ⟨d1, e1⟩ := (trod_R_F t).1 h1 htok hx
    obtain ⟨d2, e2⟩ := trodAll_args (μ := μ) (base := base) h3 hA' fun j T v hT hv' => hv (j + 1) T v (by simpa using hT) (by simpa using hv')
    refine ⟨(d1, d2), .cons (VR.v_iff.2 ⟨?_, shape_of htok (hv 0 T v rfl rfl)⟩) e2⟩
    have hs : R W (Sb (callEnv W [] μ fun _ => True) [] μ false) t d1 v.cells.toList := e1.sub fun b hb _ =>
      ⟨fun ⟨_, _, _, h, _⟩ => by simp [Store.get] at h, fun ⟨_, _, _, h, _⟩ => by simp [Store.get] at h, fun _ => ⟨rfl, trivial⟩⟩
    cases hf : t.flat with
    | true => exact hs.ofFlat hf
    | false => exact hs
  | [], [], _ :: _, _, _, _, hA, _ => by cases hA
  | [], _ :: _, _, _, _, ht, _, _ => by simp [tokL] at ht
  | _ :: _, [], _, _, _, ht, _, _ => by simp [tokL] at ht
  | _ :: _, _ :: _, [], _, _, _, hA, _ => by cases hA
  | _ :: _, _ :: _, _ :: _, [], _, _, hA, _ => by cases hA

theorem unA_mk {R : Type} : ∀ (s : SD) (d : s.D) (k : s.D → Option R), unA s (mkA s d) k = k d := by
  intro s
  induction s with
  | v g t => intro d k; cases g <;> simp [mkA, unA]
  | pr g t => intro d k; cases g <;> simp [mkA, unA]
  | cons a b iha ihb => intro d k; simp only [mkA, unA, iha, ihb]
  | ag a ih => intro d k; simp only [mkA, unA, ih]
  | _ => intro d k; simp [mkA, unA]
theorem unArg_mk {R : Type} (s : SD) (d : s.D) (k : s.D → Option R) : unArg s (mkA s d) k = k d := by
  cases s with
  | v g t => simp only [unArg, mkA, AV.isNils, Bool.false_eq_true, if_false]; exact unA_mk (.v g t) d k
  | _ => exact unA_mk _ d k
theorem unArgs_mk {R : Type} : ∀ (l : List SD) (d : LD l) (k : LD l → Option R), unArgs l (mkL l d) k = k d
  | [], _, _ => rfl
  | s :: l, d, k => by simp only [mkL, unArgs, unArg_mk, unArgs_mk]

/-- a law's run: it answers true, and leaves what was there -/
theorem law_calls {f : FuncId} {G : Callee} (hs : Sound P f G) {ts : List Ty} {Ts : List TypeId} (ht : tokL P ts Ts = true)
    (hG : ∀ d : LD (ts.map argSD), okL (ts.map argSD) d → G (AV × Store) 0 (mkL (ts.map argSD) d) [] (fun x ob => some (x, ob)) = some (.v true .bool true, []))
    {base : Nat} {vs : Array Value} {ds : List (DataW H)} {p : List MemPlace} (hA : DataW.TrodAll enc P W 0 spare held Ts vs.toList ds p)
    (hv : ∀ (j : Nat) T v, Ts[j]? = some T → vs[j]? = some v → Value.okWide P W .any base T v) :
    Calls P f vs W fun e W' => e = .returned (.bool true) ∧ Go.RowKit.Below W.heap.size W W' := by
  let μ : Mu := ⟨fun _ => none, fun _ => 0⟩
  obtain ⟨d, ha⟩ := trodAll_args (μ := μ) (base := base) ht hA fun j T v h1 h2 => hv j T v h1 (by simpa using h2)
  obtain ⟨x, ob', h1, h2⟩ := hs 0 _ _ _ _ (hG d ha.okL)
  simp only [Option.some.injEq, Prod.mk.injEq] at h1
  obtain ⟨rfl, rfl⟩ := h1
  have hR : Rel (callEnv W [] μ fun _ => True) [] μ W := {
    lent := fun n b h => by obtain ⟨_, _, h, _⟩ := h; simp [Store.get] at h
    size := Nat.le_refl _
    io := Io.refl _
    frame := fun _ _ _ => rfl
    own := fun n o x h => by simp [Store.get] at h
    inj := fun n m o o' x y h => by simp [Store.get] at h
    objs := fun n o h => by simp [Store.get] at h
    keep := fun n x c T h => by simp [callEnv, Store.get] at h }
  refine Calls.mono (h2 W μ (fun _ => True) vs hR ha) ?_
  rintro e W' ⟨v, μ', rfl, h3, h4⟩
  obtain rfl := h4.bool
  exact ⟨rfl, h3.io.1, h3.io.2.2, h3.io.2.1, h3.size, fun k hk => h3.frame k hk fun ⟨_, _, _, h, _⟩ => by simp [Store.get] at h⟩
end
end Go.Eng

/- The engine, part 37: words for proofs about printed trees. -/
namespace Go.Eng

section
variable {R : Type} {Good : Option R → Prop}
theorem gD {p : Prop} [Decidable p] {x y : Option R} (h1 : p → Good x) (h2 : ¬ p → Good y) : Good (if decide p = true then x else y) := by
  by_cases h : p
  · simpa [h] using h1 h
  · simpa [h] using h2 h
theorem gE {a b : Int} {x y : Option R} (h1 : a = b → Good x) (h2 : a ≠ b → Good y) : Good (if (a == b) = true then x else y) := by
  by_cases h : a = b
  · simpa [h] using h1 h
  · simpa [h] using h2 h
theorem gN {a b : Int} {x y : Option R} (h1 : a ≠ b → Good x) (h2 : a = b → Good y) : Good (if (a != b) = true then x else y) := by
  by_cases h : a = b
  · simpa [h] using h2 h
  · simpa [h] using h1 h
theorem gB {b : Bool} {x y : Option R} (h1 : b = true → Good x) (h2 : b = false → Good y) : Good (if b = true then x else y) := by
  cases b
  · simpa using h2 rfl
  · simpa using h1 rfl
theorem gNB {b : Bool} {x y : Option R} (h1 : b = false → Good x) (h2 : b = true → Good y) : Good (if (!b) = true then x else y) := by
  cases b
  · simpa using h1 rfl
  · simpa using h2 rfl
theorem gI {p : Prop} [Decidable p] {x y : Option R} (h1 : p → Good x) (h2 : ¬ p → Good y) : Good (if p then x else y) := by
  by_cases h : p
  · rw [if_pos h]; exact h1 h
  · rw [if_neg h]; exact h2 h
theorem gC {p : Prop} [Decidable p] {x : Option R} (h1 : p) (h2 : p → Good x) : Good (if p then x else none) := by
  rw [if_pos h1]; exact h2 h1
theorem gNone {p : Prop} [Decidable p] {x : Option R} (h1 : ¬ p) (h2 : ¬ p → Good x) : Good (if p then none else x) := by
  rw [if_neg h1]; exact h2 h1
theorem gL {α : Type} {v : α} {f : α → Option R} (h : ∀ x, x = v → Good (f x)) : Good (lett v f) := h v rfl
theorem gNeed {p : Prop} {x : Option R} (h1 : p) (h2 : p → Good x) : Good (need p x) := by rw [need_pos h1]; exact h2 h1
theorem gS {A B : Type} {s : A ⊕ B} {f : A → Option R} {g : B → Option R} (h1 : ∀ a, s = .inl a → Good (f a)) (h2 : ∀ b, s = .inr b → Good (g b)) : Good (caseS s f g) := by
  cases s with
  | inl a => exact h1 a rfl
  | inr b => exact h2 b rfl
end

theorem w64 {x : Int} (h1 : -9223372036854775808 ≤ x) (h2 : x ≤ 9223372036854775807) : wi64 x = x := by
  unfold wi64 IntKind.wrap
  simp [IntKind.bits, IntKind.signed]
  omega
theorem wu8_id {x : Int} (h1 : 0 ≤ x) (h2 : x ≤ 255) : wu8 x = x := by
  unfold wu8 IntKind.wrap
  simp [IntKind.bits, IntKind.signed]
  omega
theorem maxI_eq : maxI = 9223372036854775807 := rfl
theorem room_eq : room = 140737488355328 := rfl
theorem dropAt {α : Type} {l : List α} {i : Int} (h0 : 0 ≤ i) (h1 : i < l.length) (z : α) : l.drop i.toNat = l.getD i.toNat z :: l.drop (i + 1).toNat := by
  have h2 : i.toNat < l.length := by omega
  rw [List.drop_eq_getElem_cons h2, show (i + 1).toNat = i.toNat + 1 by omega]
  simp [List.getD, List.getElem?_eq_getElem h2]
theorem okSl {t : Ty} {l : List t.D} (h : okT (.sl t) l) : (l.length : Int) ≤ 9223372036854775807 := by
  have := h.1; rw [maxI_eq] at this; omega
theorem okInt {n : Int} (h : okT (.int .i64) n) : -9223372036854775808 ≤ n ∧ n ≤ 9223372036854775807 := by
  have : ok .i64 n := h
  unfold ok IntKind.min IntKind.max at this
  simp [IntKind.bits, IntKind.signed] at this
  omega
theorem okByte {n : Int} (h : okT (.int .u8) n) : 0 ≤ n ∧ n ≤ 255 := by
  have : ok .u8 n := h
  unfold ok IntKind.min IntKind.max at this
  simp [IntKind.bits, IntKind.signed] at this
  omega
end Go.Eng

