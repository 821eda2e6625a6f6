/- The engine: a machine that runs loaded code on plain data, and its soundness against the model. -/
import Derived.Test.YtjelaopafhnlnaaEngB
import Derived.ChangeArms
import Derived.DataReads
import Derived.Below
import Derived.OpenShut
/- The engine, part 33: loops, joins and functions as contracts over plain data. -/
namespace Go.Eng

/-- t, where p holds; else nothing -/
noncomputable def need {R : Type} (p : Prop) (t : Option R) : Option R := @ite _ p (Classical.propDecidable p) t none
theorem need_pos {R : Type} {p : Prop} (h : p) (t : Option R) : need p t = t := by unfold need; rw [if_pos h]
theorem need_some {R : Type} {r : R} {p : Prop} {t : Option R} (h : need p t = some r) : p ∧ t = some r := by
  unfold need at h
  split at h
  · exact ⟨by assumption, h⟩
  · cases h
def caseS {A B R : Type} (x : A ⊕ B) (f : A → R) (g : B → R) : R :=
  match x with
  | .inl a => f a
  | .inr b => g b

section
variable {P : Program} {C : Ctx}

def bodyOf (C : Ctx) (M : Masks) (LP : Loops) (c : Code) {R : Type} (st : St) (kk : Ex → St → Option R) : Option R :=
  exec C 0 M LP c st fun e st' => match e with
    | .normal => kk .normal (scrub M c st')
    | e => kk e st'

theorem StR.okData {E : Env} {μ : Mu} {a : Act} {w : World} {sh : List SD × OSh} {d : LD sh.1} {o : OLD sh.2} (hn : (sh.2.map (·.1)).Nodup) (hS : StR E (mkS sh d o) μ a w) : okL sh.1 d ∧ okOL sh.2 o :=
  ⟨okL_of fun i hi => ⟨_, hS.slots.2 i hi⟩, okOL_of hn hS.rel.objs⟩

theorem bodyOf_sound (hC : CtxOK P C) {M : Masks} {LP : Loops} {c : Code} (hL : LOK P LP c) {Rr : Type} {r : Rr} {st : St} {kk : Ex → St → Option Rr} (h : bodyOf C M LP c st kk = some r) :
    ∃ e st', kk e st' = some r ∧ Goes P c st e st' :=
  body_sound (P := P) (M := M) (c := c) (ex := fun st k => exec C 0 M LP c st k) (kk := kk) (fun h => exec_sound hC c hL h) h

/-- a loop that is told by a function of its data -/
structure LoopK (C : Ctx) (M : Masks) (LP : Loops) (c : Code) where
  sh : List SD × OSh
  X : Type
  go : {R : Type} → LD sh.1 → OLD sh.2 → X → (Ex → St → Option R) → Option R
  pre : LD sh.1 → OLD sh.2 → Prop
  mu : LD sh.1 → OLD sh.2 → Nat
  S : LD sh.1 → OLD sh.2 → X
  T : {R : Type} → (LD sh.1 → OLD sh.2 → Option R) → (X → Option R) → LD sh.1 → OLD sh.2 → Option R
  hn : nodupB (sh.2.map (·.1)) = true
  hT : ∀ (R : Type) (K : Ex → St → Option R) (d : LD sh.1) (o : OLD sh.2),
    bodyOf C M LP c (mkS sh d o) K = T (fun d' o' => K .normal (mkS sh d' o')) (fun x => go d o x K) d o
  hx : ∀ d o x, ∃ e st, e ≠ .normal ∧ ∀ (R : Type) (k : Ex → St → Option R), go d o x k = k e st
  hS : ∀ d o, okL sh.1 d → okOL sh.2 o → pre d o → ∀ (R : Type) (rec : LD sh.1 → OLD sh.2 → Option R) (ex : X → Option R) (Good : Option R → Prop),
    (∀ d' o', (∀ (R : Type) (x : X) (k : Ex → St → Option R), go d' o' x k = go d o x k) → pre d' o' → mu d' o' < mu d o → S d' o' = S d o → Good (rec d' o')) →
    Good (ex (S d o)) → Good (T rec ex d o)

noncomputable def LoopK.G {M : Masks} {LP : Loops} {c : Code} (L : LoopK C M LP c) : LoopC := fun _ _ st k =>
  unS L.sh st fun d o => need (L.pre d o) (L.go d o (L.S d o) k)

theorem Goes.le {c : Code} {st st0 : St} {e : Ex} {st' : St} (h : Goes P c st0 e st') (hl : St.Le st0 st) : Goes P c st e st' := fun hS Q hQ => h (hS.le hl) Q hQ

theorem LoopK.sound (hC : CtxOK P C) {M : Masks} {LP : Loops} {c : Code} (L : LoopK C M LP c) (hL : LOK P LP c) : LoopS P c L.G := by
  intro Rr n st k r h
  obtain ⟨d, o, hle, h1⟩ := unS_sound h
  obtain ⟨hp, h2⟩ := need_some h1
  obtain ⟨e, st', hne, hgo⟩ := L.hx d o (L.S d o)
  rw [hgo] at h2
  refine ⟨e, st', h2, Goes.le ?_ hle⟩
  have key : ∀ (m : Nat) (d' : LD L.sh.1) (o' : OLD L.sh.2), (∀ (R : Type) (x : L.X) (k : Ex → St → Option R), L.go d' o' x k = L.go d o x k) → L.pre d' o' → L.S d' o' = L.S d o → L.mu d' o' < m →
      ∀ {E : Env} {μ : Mu} {a : Act} {w : World}, StR E (mkS L.sh d' o') μ a w →
      ∀ Q : Exit → Act → World → Prop, (∀ μ' a' w', StR E st' μ' a' w' → Q e.ex a' w') → Code.rounds P c Q m a w := by
    intro m
    induction m with
    | zero => intro d' o' _ _ _ hm; omega
    | succ m ih =>
      intro d' o' hi hp' hSe hm E μ a w hS Q hQ
      rw [rounds_succ]
      obtain ⟨k1, k2⟩ := hS.okData (nodupB_iff L.hn)
      have hgood := L.hS d' o' k1 k2 hp' (Ex × St) (fun d'' o'' => some (.normal, mkS L.sh d'' o'')) (fun x => L.go d' o' x fun e st => some (e, st))
        (fun z => z = some (e, st') ∨ ∃ d'' o'', z = some (.normal, mkS L.sh d'' o'') ∧ (∀ (R : Type) (x : L.X) (k : Ex → St → Option R), L.go d'' o'' x k = L.go d' o' x k) ∧
          L.pre d'' o'' ∧ L.mu d'' o'' < L.mu d' o' ∧ L.S d'' o'' = L.S d' o')
        (fun d'' o'' h0 h1 h2 h3 => .inr ⟨d'', o'', rfl, h0, h1, h2, h3⟩) (.inl (by rw [hSe, hi, hgo]))
      rw [← L.hT (Ex × St) (fun e st => some (e, st))] at hgood
      rcases hgood with hg | ⟨d'', o'', hg, h0, h4, h5, h6⟩
      · obtain ⟨e1, st1, h7, h8⟩ := bodyOf_sound hC hL hg
        simp only [Option.some.injEq, Prod.mk.injEq] at h7
        obtain ⟨rfl, rfl⟩ := h7
        refine h8 hS _ fun μ' a' w' hS' => ?_
        have := hQ μ' a' w' hS'
        revert this hne
        cases e1 with
        | normal => intro hne; exact absurd rfl hne
        | exit id => exact fun _ h => h
        | ret => exact fun _ h => h
      · obtain ⟨e1, st1, h7, h8⟩ := bodyOf_sound hC hL hg
        simp only [Option.some.injEq, Prod.mk.injEq] at h7
        obtain ⟨rfl, rfl⟩ := h7
        exact h8 hS _ fun μ' a' w' hS' => ih d'' o'' (fun R x k => (h0 R x k).trans (hi R x k)) h4 (h6.trans hSe) (by omega) hS' Q hQ
  intro E μ a w hS Q hQ
  exact wp_loop_rounds (L.mu d o + 1) (key (L.mu d o + 1) d o (fun _ _ _ => rfl) hp rfl (Nat.lt_succ_self _) hS Q hQ)

/-- code, shown as a function of its data -/
structure JoinK (C : Ctx) (M : Masks) (LP : Loops) (c : Code) where
  sh : List SD × OSh
  X : Type
  go : {R : Type} → LD sh.1 → OLD sh.2 → X → (Ex → St → Option R) → Option R
  T : {R : Type} → (X → Option R) → LD sh.1 → OLD sh.2 → Option R
  hT : ∀ (R : Type) (K : Ex → St → Option R) (d : LD sh.1) (o : OLD sh.2), exec C 0 M LP c (mkS sh d o) K = T (fun x => go d o x K) d o

noncomputable def JoinK.G {M : Masks} {LP : Loops} {c : Code} (L : JoinK C M LP c) : LoopC := fun _ _ st k =>
  unS L.sh st fun d o => L.T (fun x => L.go d o x k) d o

theorem JoinK.sound (hC : CtxOK P C) {M : Masks} {LP : Loops} {c : Code} (L : JoinK C M LP c) (hL : LOK P LP c) : CodeS P c L.G := by
  intro Rr n st k r h
  obtain ⟨d, o, hle, h1⟩ := unS_sound h
  rw [← L.hT] at h1
  obtain ⟨e, st', h2, h3⟩ := exec_sound hC c hL h1
  exact ⟨e, st', h2, h3.le hle⟩

/-! ### functions -/
/-- a value taken as an argument of a shape: a bare nil is an empty slice -/
def unArg {R : Type} : (s : SD) → AV → (s.D → Option R) → Option R
  | .v g t, x, k => if x.isNils then plainT t x (fun g' d => if g' = true then k d else none) else unA (.v g t) x k
  | s, x, k => unA s x k
theorem unArg_sound {Rr : Type} {r : Rr} {s : SD} {x : AV} {k : s.D → Option Rr} (h : unArg s x k = some r) :
    ∃ d, k d = some r ∧ ∀ {E : Env} {ob : Store} {μ : Mu} {w : World} {v : Value}, VR E ob μ w x v → VR E ob μ w (mkA s d) v := by
  cases s with
  | v g t =>
    simp only [unArg] at h
    split at h
    · obtain ⟨g', d, h1, h2⟩ := plainT_sound h
      split at h1
      · rename_i hg; subst hg
        refine ⟨d, h1, fun hv => ?_⟩
        obtain ⟨h3, h4⟩ := h2 hv
        exact VR.le (.v (fun _ => rfl) _ _) (VR.v_iff.2 ⟨h3, h4⟩)
      · cases h1
    · obtain ⟨d, hl, h1⟩ := unA_sound h
      exact ⟨d, h1, fun hv => hv.le hl⟩
  | _ =>
    simp only [unArg] at h
    obtain ⟨d, hl, h1⟩ := unA_sound h
    exact ⟨d, h1, fun hv => hv.le hl⟩
def unArgs {R : Type} : (l : List SD) → List AV → (LD l → Option R) → Option R
  | [], [], k => k ()
  | s :: l, x :: xs, k => unArg s x fun d => unArgs l xs fun e => k (d, e)
  | _, _, _ => none
theorem unArgs_sound {Rr : Type} {r : Rr} : {l : List SD} → {xs : List AV} → {k : LD l → Option Rr} → unArgs l xs k = some r →
    ∃ d, k d = some r ∧ ∀ {E : Env} {ob : Store} {μ : Mu} {w : World} {vs : List Value}, ArgsR E ob μ w xs vs → ArgsR E ob μ w (mkL l d) vs
  | [], [], k, h => ⟨(), by simpa [unArgs] using h, fun ha => ha⟩
  | [], _ :: _, k, h => by simp [unArgs] at h
  | _ :: _, [], k, h => by simp [unArgs] at h
  | s :: l, x :: xs, k, h => by
    rw [unArgs] at h
    obtain ⟨d, h1, h2⟩ := unArg_sound h
    obtain ⟨e, h3, h4⟩ := unArgs_sound h1
    exact ⟨(d, e), h3, fun ha => by cases ha with | cons hx ha => exact .cons (h2 hx) (h4 ha)⟩

/-- results of shapes -/
def mkRes (l : List SD) (d : LD l) : AV := resOf (mkL l d)
def unTL {R : Type} : (l : List SD) → AV → (LD l → Option R) → Option R
  | [], .nil, k => k ()
  | s :: l, .cons x y, k => unArg s x fun d => unTL l y fun e => k (d, e)
  | _, _, _ => none
def unRes {R : Type} (l : List SD) (x : AV) (k : LD l → Option R) : Option R :=
  match l, k with
  | [s], k => unArg s x fun d => k (d, ())
  | l, k => match x with
    | .tup y => unTL l y k
    | _ => none
theorem VR.srd {E : Env} {ob : Store} {μ : Mu} {w : World} {s : SD} {d : s.D} {v : Value} (h : VR E ob μ w (mkA s d) v) : SRd E ob μ w (mkA s d) v := by
  cases s with
  | dead => exact .inl rfl
  | _ => exact .inr h
theorem unTL_sound {Rr : Type} {r : Rr} : {l : List SD} → {x : AV} → {k : LD l → Option Rr} → unTL l x k = some r →
    ∃ d, k d = some r ∧ ∀ {E : Env} {ob : Store} {μ : Mu} {w : World} {vs : List Value}, TR E ob μ w x vs → TR E ob μ w (AV.ofList (mkL l d)) vs
  | [], x, k, h => by
    cases x <;> (try (simp [unTL] at h; done))
    exact ⟨(), by simpa [unTL] using h, fun ht => ht⟩
  | s :: l, x, k, h => by
    cases x <;> (try (simp [unTL] at h; done))
    rw [unTL] at h
    obtain ⟨d, h1, h2⟩ := unArg_sound h
    obtain ⟨e, h3, h4⟩ := unTL_sound h1
    refine ⟨(d, e), h3, fun {E ob μ w vs} ht => ?_⟩
    cases vs with
    | nil => simp [TR] at ht
    | cons v vs =>
      simp only [TR] at ht
      simp only [mkL, AV.ofList, TR]
      refine ⟨?_, h4 ht.2⟩
      exact VR.srd (h2 ht.1.vr)
theorem resOf_ne {l : List AV} (h : l.length ≠ 1) : resOf l = .tup (AV.ofList l) := by
  unfold resOf
  split
  · simp at h
  · rfl
theorem mkL_len : ∀ (l : List SD) (d : LD l), (mkL l d).length = l.length
  | [], _ => rfl
  | _ :: l, d => by simp [mkL, mkL_len l]
theorem unRes_sound {Rr : Type} {r : Rr} {l : List SD} {x : AV} {k : LD l → Option Rr} (h : unRes l x k = some r) :
    ∃ d, k d = some r ∧ ∀ {E : Env} {ob : Store} {μ : Mu} {w : World} {v : Value}, VR E ob μ w x v → VR E ob μ w (mkRes l d) v := by
  unfold unRes at h
  split at h
  · obtain ⟨d, h1, h2⟩ := unArg_sound h
    exact ⟨(d, ()), h1, fun hv => h2 hv⟩
  · rename_i l' k' hl
    split at h
    · rename_i y
      obtain ⟨d, h1, h2⟩ := unTL_sound h
      refine ⟨d, h1, fun {E ob μ w v} hv => ?_⟩
      obtain ⟨vs, rfl, h3⟩ := hv
      unfold mkRes
      rw [resOf_ne (by rw [mkL_len]; intro he; obtain ⟨s, rfl⟩ := List.length_eq_one_iff.1 he; exact hl s k rfl HEq.rfl)]
      exact ⟨vs, rfl, h2 h3⟩
    · cases h

/-- a function that is told by a function of its data -/
structure FnK (C : Ctx) (M : Masks) (LP : Loops) (fr : List (Option Ty)) (fn : Func) where
  sh : List SD
  osh : OSh
  rsh : List SD
  rosh : OSh
  pre : LD sh → OLD osh → Prop
  S : LD sh → OLD osh → LD rsh × OLD rosh
  F : {R : Type} → (LD rsh → OLD rosh → Option R) → LD sh → OLD osh → Option R
  hn : nodupB (osh.map (·.1)) = true
  hF : ∀ (R : Type) (k : LD rsh → OLD rosh → Option R) (d : LD sh) (o : OLD osh),
    runFn C M LP fr fn R 0 (mkL sh d) (mkOL osh o) (fun x ob => unRes rsh x fun r => unOL rosh ob fun q => k r q) = F k d o
  hS : ∀ d o, okL sh d → okOL osh o → pre d o → ∀ (R : Type) (k : LD rsh → OLD rosh → Option R), F k d o = k (S d o).1 (S d o).2

noncomputable def FnK.G {M : Masks} {LP : Loops} {fr : List (Option Ty)} {fn : Func} (L : FnK C M LP fr fn) : Callee := fun _ _ xs ob k =>
  unArgs L.sh xs fun d => unOL L.osh ob fun o => need (L.pre d o) (k (mkRes L.rsh (L.S d o).1) (mkOL L.rosh (L.S d o).2))

theorem Store.Le.privN {s s' : Store} (h : Store.Le s s') (μ : Mu) (n b : Nat) : PrivN s μ n b ↔ PrivN s' μ n b :=
  ⟨fun ⟨_, x, h1, h2, h3⟩ => let ⟨o', h4, _⟩ := h.get h1; ⟨o', x, h4, h2, h3⟩, fun ⟨_, x, h1, h2, h3⟩ => let ⟨o', h4, _⟩ := h.get' h1; ⟨o', x, h4, h2, h3⟩⟩
theorem callEnv_le {s s' : Store} (h : Store.Le s s') (w : World) (μ : Mu) (A : Nat → Prop) : callEnv w s μ A = callEnv w s' μ A := by
  unfold callEnv
  congr 1
  · funext j b; exact propext (h.privN μ j b)
  · funext j
    cases hg : s.get j with
    | none =>
      cases hg' : s'.get j with
      | none => rfl
      | some o' => obtain ⟨o, h1, _⟩ := h.get' hg'; rw [hg] at h1; cases h1
    | some o =>
      obtain ⟨o', h1, h2⟩ := h.get hg
      rw [h1]
      cases h2 <;> cases μ.addr j <;> rfl
theorem ArgsR.move {E E' : Env} {ob ob' : Store} {μ μ' : Mu} {w w' : World} (m : Moves E ob μ w E' ob' μ' w') : ∀ {xs : List AV} {vs : List Value},
    (∀ n, Keeps ob μ ob' μ' n) → ArgsR E ob μ w xs vs → ArgsR E' ob' μ' w' xs vs
  | _, _, _, .nil => .nil
  | _, _, hk, .cons hx ha => .cons (hx.move m fun n _ => hk n) (ha.move m hk)

theorem ArgsR.okL {E : Env} {ob : Store} {μ : Mu} {w : World} : ∀ {l : List SD} {d : LD l} {vs : List Value}, ArgsR E ob μ w (mkL l d) vs → okL l d
  | [], _, _, _ => trivial
  | s :: l, d, _, h => by
    rw [mkL] at h
    cases h with
    | cons hx ha => exact ⟨VR.okS hx, ha.okL⟩

theorem FnK.sound (hC : CtxOK P C) {M : Masks} {LP : Loops} {fr : List (Option Ty)} {fn : Func} (L : FnK C M LP fr fn) {f : FuncId} (hf : P.funcs[f]? = some fn)
    (hL : ∀ c, fn.body = some c → LOK P LP c) : Sound P f L.G := by
  intro Rr n xs ob k r h
  obtain ⟨d, h1, h2⟩ := unArgs_sound h
  obtain ⟨o, hle, h3⟩ := unOL_sound h1
  obtain ⟨hp, h4⟩ := need_some h3
  refine ⟨_, _, h4, fun w μ A vs hR ha => ?_⟩
  have hR' := hR.le hle
  have ha' := (h2 ha).move hle.sub.moves fun n => hle.keeps μ n
  rw [← callEnv_le hle] at hR' ha' ⊢
  have e1 := L.hS d o ha'.okL (okOL_of (nodupB_iff L.hn) hR'.objs) hp _ fun r q => some (r, q)
  rw [← L.hF] at e1
  obtain ⟨x, ob', h5, h6⟩ := runFn_sound hC hf M fr hL _ _ _ _ _ e1
  obtain ⟨r', h7, h8⟩ := unRes_sound h5
  obtain ⟨q', h9, h10⟩ := unOL_sound h7
  simp only [Option.some.injEq, Prod.mk.injEq] at h10
  obtain ⟨rfl, rfl⟩ := h10
  refine Calls.mono (h6 w μ A vs hR' ha') ?_
  rintro e w' ⟨v, μ', rfl, h11, h12⟩
  exact ⟨v, μ', rfl, h11.le h9, (h8 h12).move h9.sub.moves fun n _ => h9.keeps μ' n⟩

/-! ### the pieces of a code that are shown by themselves -/
def subs (LP : Loops) : Code → List (Bool × Code × LoopC)
  | .seq a b => subs LP a ++ (match joinOf LP b with
    | some G => [(true, b, G)]
    | none => subs LP b)
  | .cond _ a b => subs LP a ++ subs LP b
  | .block _ c => subs LP c
  | .loop c => match (firstRegion c).bind LP with
    | some G => [(false, c, G)]
    | none => subs LP c
  | _ => []
def SubS (P : Program) : Bool × Code × LoopC → Prop
  | (true, c, G) => CodeS P c G
  | (false, c, G) => LoopS P c G
theorem LOK_of {LP : Loops} : ∀ {c : Code}, (∀ x ∈ subs LP c, SubS P x) → LOK P LP c := by
  intro c
  induction c with
  | seq a b iha ihb =>
    intro h
    rw [LOK]
    simp only [subs, List.mem_append] at h
    refine ⟨iha fun x hx => h x (.inl hx), ?_⟩
    split
    · rename_i G hG; exact h (true, b, G) (.inr (by rw [hG]; simp))
    · rename_i hG; exact ihb fun x hx => h x (.inr (by rw [hG]; exact hx))
  | cond t a b iha ihb =>
    intro h
    simp only [subs, List.mem_append] at h
    exact ⟨iha fun x hx => h x (.inl hx), ihb fun x hx => h x (.inr hx)⟩
  | block id c ih => intro h; exact ih h
  | loop c ih =>
    intro h
    rw [LOK]
    simp only [subs] at h
    split
    · rename_i G hG; exact h (false, c, G) (by rw [hG]; simp)
    · rename_i hG; exact ih fun x hx => h x (by rw [hG]; exact hx)
  | _ => intro _; trivial
def AllS (P : Program) : List (Bool × Code × LoopC) → Prop
  | [] => True
  | x :: l => SubS P x ∧ AllS P l
theorem AllS.mem : ∀ {l : List (Bool × Code × LoopC)}, AllS P l → ∀ x ∈ l, SubS P x
  | _ :: _, h, x, hx => by
    rcases List.mem_cons.1 hx with rfl | hx
    · exact h.1
    · exact h.2.mem x hx
theorem LOK_list {LP : Loops} {c : Code} {l : List (Bool × Code × LoopC)} (he : subs LP c = l) (h : AllS P l) : LOK P LP c := LOK_of fun x hx => h.mem x (he ▸ hx)
theorem body_LOK {LP : Loops} {fn : Func} (h : LOK P LP (fn.body.getD .skip)) : ∀ c, fn.body = some c → LOK P LP c := fun c hc => by rw [hc] at h; exact h

end
end Go.Eng

/- The engine, part 34: the type table of a given program. -/
namespace Go.Eng

def elemThere (P : Program) (T : TypeId) : Bool :=
  match P.underlying T with
  | some (.slice e) => (P.info? e).isSome
  | _ => true
/-- a type's data type, where the program's table bears it out -/
def tyT (P : Program) (T : TypeId) : Option Ty :=
  match tyOf P 12 T with
  | some t => if tokB P t T = true ∧ elemThere P T = true then some t else none
  | none => none
theorem tyT_some {P : Program} {T : TypeId} {t : Ty} (h : tyT P T = some t) : tokB P t T = true ∧ elemThere P T = true := by
  unfold tyT at h
  split at h
  · split at h
    · rename_i h1
      obtain rfl := Option.some.inj h
      exact h1
    · cases h
  · cases h

theorem ctxT_of {P : Program} {C : Ctx} (h : 64 ≤ P.depth) (hm : P.follows .mixedOrders = true) (hT : ∀ T t, C.TT T = some t → tyT P T = some t) (hE : ∀ T t, C.TT T = some t → C.EB T = elemBytes P T) : CtxT P C where
  tt := fun T t ht => tokB_tok (tyT_some (hT T t ht)).1
  eb := fun T t e ht hu => by
    rw [hE T t ht]
    have h1 := (tyT_some (hT T t ht)).2
    unfold elemThere at h1
    rw [hu] at h1
    simp only at h1
    cases hi : P.info? e with
    | none => simp [hi] at h1
    | some i => simp [elemBytes, hu, Program.bytesOf, hi]
  depth := h
  mixed := hm

/-- tables of types: as lists -/
def tabT (l : List (Option Ty)) (T : Nat) : Option Ty := l.getD T none
def tabB (P : Program) (l : List (Option Ty)) (e : List Nat) : Bool :=
  decide (64 ≤ P.depth) && P.follows .mixedOrders && (List.range l.length).all fun T => match l.getD T none with
    | some t => decide (tyT P T = some t) && e.getD T 0 == elemBytes P T
    | none => true
theorem ctxT_tab {P : Program} {C : Ctx} {l : List (Option Ty)} {e : List Nat} (h : tabB P l e = true) (hT : C.TT = tabT l) (hE : C.EB = fun T => e.getD T 0) : CtxT P C := by
  simp only [tabB, Bool.and_eq_true, decide_eq_true_eq, List.all_eq_true, List.mem_range] at h
  have key : ∀ T t, C.TT T = some t → tyT P T = some t ∧ e.getD T 0 = elemBytes P T := by
    intro T t ht
    rw [hT] at ht
    by_cases hl : T < l.length
    · have h2 := h.2 T hl
      unfold tabT at ht
      rw [ht] at h2
      simpa using h2
    · unfold tabT at ht
      simp [List.getD, List.getElem?_eq_none (Nat.le_of_not_lt hl)] at ht
  exact ctxT_of h.1.1 h.1.2 (fun T t ht => (key T t ht).1) (fun T t ht => by rw [hE]; exact (key T t ht).2)

end Go.Eng

/- The engine, part 35: the loops of a function's code. -/
namespace Go.Eng

/-- the code of a loop, without its own 'loop', by its first region -/
def getLoop? (id : Nat) : Code → Option Code
  | .seq a b | .cond _ a b => match getLoop? id a with
    | some c => some c
    | none => getLoop? id b
  | .block _ c | .scope c => getLoop? id c
  | .loop c => if firstRegion c = some id then some c else getLoop? id c
  | _ => none
/-- the code behind a statement, by its first region -/
def getJoin? (id : Nat) : Code → Option Code
  | .seq a b => match getJoin? id a with
    | some c => some c
    | none => if firstRegion b = some id then some b else getJoin? id b
  | .cond _ a b => match getJoin? id a with
    | some c => some c
    | none => getJoin? id b
  | .block _ c | .scope c | .loop c => getJoin? id c
  | _ => none
def getJoin (f : Func) (id : Nat) : Code := ((f.body.bind (getJoin? id))).getD .skip
def getLoop (f : Func) (id : Nat) : Code := ((f.body.bind (getLoop? id))).getD .skip


/-! ### tables -/
def maskOf (l : List (Nat × Nat × List Nat)) : Masks := fun k => (l.find? fun p => p.1 == k).map (·.2)
def noLoops : Loops := fun _ => none
def addL (L : Loops) (id : Nat) (G : LoopC) : Loops := fun k => if k = id then some G else L k
def addF (C : Ctx) (f : Nat) (G : Callee) : Ctx := { C with CT := fun k => if k = f then some G else C.CT k }
theorem CtxOK.add {P : Program} {C : Ctx} (h : CtxOK P C) {f : Nat} {G : Callee} (hs : Sound P f G) (fn : Func) (h1 : P.funcs[f]? = some fn)
    (h2 : (fn.name == "runtime.NumGoroutine") = false) (h3 : fn.body.isNone = false) : CtxOK P (addF C f G) where
  tt := h.tt
  eb := h.eb
  depth := h.depth
  mixed := h.mixed
  ct := fun k G' hk => by
    simp only [addF] at hk
    split at hk
    · rename_i he; subst he; obtain rfl := Option.some.inj hk; exact ⟨hs, fn, h1, h2, h3⟩
    · exact h.ct k G' hk
theorem CtxOK.of {P : Program} {C : Ctx} (h : CtxT P C) (hc : ∀ k, C.CT k = none) : CtxOK P C where
  tt := h.tt
  eb := h.eb
  depth := h.depth
  mixed := h.mixed
  ct := fun k G' hk => by rw [hc] at hk; cases hk

/-! ### words of the printed texts -/
def lett {α β : Type} (v : α) (f : α → β) : β := f v
abbrev wi64 (n : Int) : Int := IntKind.wrap .i64 n
abbrev wi32 (n : Int) : Int := IntKind.wrap .i32 n
abbrev wi16 (n : Int) : Int := IntKind.wrap .i16 n
abbrev wi8 (n : Int) : Int := IntKind.wrap .i8 n
abbrev wu64 (n : Int) : Int := IntKind.wrap .u64 n
abbrev wu32 (n : Int) : Int := IntKind.wrap .u32 n
abbrev wu16 (n : Int) : Int := IntKind.wrap .u16 n
abbrev wu8 (n : Int) : Int := IntKind.wrap .u8 n

end Go.Eng

/- The engine, part 36: a law's arguments, read as data, are the engine's data; a law that answers true. -/
namespace Go.Eng

/-- types of arguments: no pointers, no slices of nothing -/
def Ty.okArg : Ty → Bool
  | .int _ | .bool | .str | .unit => true
  | .sl t => t.okArg && decide (0 < t.size)
  | .arr _ t => t.okArg
  | .pair a b => a.okArg && b.okArg
  | .opq _ => false
def argSD (t : Ty) : SD := .v t.flat t

theorem exists_list {α : Type} {Q : Nat → α → Prop} : ∀ n, (∀ i, i < n → ∃ d, Q i d) → ∃ l : List α, l.length = n ∧ ∀ i (h : i < l.length), Q i l[i]
  | 0, _ => ⟨[], rfl, fun i h => by simp at h⟩
  | n + 1, h => by
    obtain ⟨l, h1, h2⟩ := exists_list n fun i hi => h i (by omega)
    obtain ⟨d, hd⟩ := h n (by omega)
    refine ⟨l ++ [d], by simp [h1], fun i hi => ?_⟩
    by_cases hc : i < l.length
    · rw [List.getElem_append_left hc]; exact h2 i hc
    · have : i = n := by simp at hi; omega
      subst this
      rw [List.getElem_append_right (by omega)]
      simpa [h1] using hd

section
variable {H : Type} {enc : TypeId × Value → H} {P : Program} {W : World} {spare : Nat → Bool} {held : Bool}

theorem TOK.cellsOf {t : Ty} {T : TypeId} (h : TOK P t T) : P.cellsOf T = t.size := by
  obtain ⟨i, z, hi, hs, _⟩ := h.head
  simp [Program.cellsOf, hi, hs]
theorem cell_there {a : Addr} {v : Value} (h : W.cell? a = some v) : a.spot = none ∧ a.block < W.heap.size := by
  unfold World.cell? at h
  split at h
  · rename_i c e fz hb
    refine ⟨?_, (Array.getElem?_eq_some_iff.1 hb).1⟩
    cases hs : a.spot with
    | none => rfl
    | some s => simp [hs] at h
  · cases h
theorem cells_there {a : Addr} {n : Nat} {cs : List Value} (h : W.cells? 0 a n = some cs) (hn : 0 < n) : a.spot = none ∧ a.block < W.heap.size ∧ CellsAt W a.block a.off cs := by
  obtain ⟨_, h1, h2⟩ := World.cells?_some h
  have h0 := h2 0 hn
  rw [List.getElem?_eq_getElem (by omega)] at h0
  have h3 : a.add 0 = a := by simp [Addr.add]
  rw [h3] at h0
  obtain ⟨s1, s2⟩ := cell_there h0
  refine ⟨s1, s2, fun j hj => ?_⟩
  have h4 := h2 j (by omega)
  rw [add_of s1, List.getElem?_eq_getElem hj] at h4
  exact h4

theorem wf_ok {k : IntKind} {n : Int} (h : (Lit.int k n).wf = true) : ok k n := by
  simpa [Lit.wf, ok, IntKind.has] using h

theorem trod_R_F : ∀ (t : Ty), (∀ {T : TypeId} {fuel : Nat} {cs : List Value} {x : DataW H × List MemPlace}, t.okArg = true → TOK P t T → DataW.trod enc P W 0 spare held fuel T cs = some x →
      ∃ d : t.D, R W (fun b => b < W.heap.size) t d cs) ∧
    (∀ {r : List Field} {o n : Nat} {cs : List Value}, t.okArg = true → FOK P t r o → (∀ f ∈ r, ∃ y, DataW.trod enc P W 0 spare held n f.type ((cs.drop f.offset).take (P.cellsOf f.type)) = some y) →
      cs.length = o + t.size → ∃ d : t.D, R W (fun b => b < W.heap.size) t d (cs.drop o)) := by
  intro t
  induction t with
  | int k =>
    refine ⟨fun _ h hx => ?_, fun _ h => by simp [FOK] at h⟩
    simp only [TOK] at h
    obtain ⟨n, rfl, _, hw⟩ := DataW.trod_int h.2 hx
    exact ⟨n, by simp only [R]; exact ⟨trivial, wf_ok hw⟩⟩
  | bool =>
    refine ⟨fun _ h hx => ?_, fun _ h => by simp [FOK] at h⟩
    simp only [TOK] at h
    obtain ⟨b, rfl, _⟩ := DataW.trod_bool h.2 hx
    exact ⟨b, by simp only [R]⟩
  | str =>
    refine ⟨fun _ h hx => ?_, fun _ h => by simp [FOK] at h⟩
    simp only [TOK] at h
    obtain ⟨s, rfl, _⟩ := DataW.trod_string h.2 hx
    exact ⟨s, by simp only [R]⟩
  | sl t ih =>
    refine ⟨fun ha h hx => ?_, fun _ h => by simp [FOK] at h⟩
    simp only [Ty.okArg, Bool.and_eq_true, decide_eq_true_eq] at ha
    simp only [TOK] at h
    obtain ⟨_, e, hu, he⟩ := h
    rcases DataW.trod_slice hu hx with ⟨rfl, _⟩ | ⟨a, len, cap, elems, rest, n, _, rfl, _, _, hl, hm, hlen, hel, _, _⟩
    · exact ⟨[], by simp only [R]; exact ⟨none, 0, rfl, Nat.le_refl _, Nat.zero_le _, fun _ => rfl, fun x hx => by cases hx⟩⟩
    · have hc := he.cellsOf
      have each : ∀ i, i < len → ∃ d : t.D, ∃ es, R W (fun b => b < W.heap.size) t d es ∧ W.cells? 0 (a.add (i * t.size)) t.size = some es := by
        intro i hi
        have h1 := hel i hi
        rw [List.getElem?_eq_getElem (by omega), Option.bind_eq_some_iff, hc] at h1
        obtain ⟨es, h2, h3⟩ := h1
        obtain ⟨d, hd⟩ := ih.1 ha.1 he h3
        exact ⟨d, es, hd, h2⟩
      obtain ⟨l, h1, h2⟩ := exists_list len each
      have hmax : maxLen ≤ maxI := by decide
      refine ⟨l, ?_⟩
      simp only [R]
      refine ⟨some a, cap, by rw [h1], by omega, by omega, fun hh => (by cases hh), fun x hx hpos => ?_⟩
      obtain rfl := Option.some.inj hx
      obtain ⟨es0, _, h4⟩ := h2 0 hpos
      rw [show a.add (0 * t.size) = a by simp [Addr.add]] at h4
      obtain ⟨s1, s2, _⟩ := cells_there h4 ha.2
      refine ⟨s1, s2, s2, fun i hi => ?_⟩
      obtain ⟨es, h5, h6⟩ := h2 i hi
      rw [add_of s1] at h6
      exact ⟨es, h5, (cells_there h6 ha.2).2.2⟩
  | arr m t ih =>
    refine ⟨fun ha h hx => ?_, fun _ h => by simp [FOK] at h⟩
    simp only [Ty.okArg] at ha
    simp only [TOK] at h
    obtain ⟨hh, e, hu, he⟩ := h
    have hc := he.cellsOf
    rename_i T fuel cs x
    have hT : P.cellsOf T = m * t.size := by obtain ⟨i, z, hi, hs, _⟩ := hh; simp [Program.cellsOf, hi, hs]
    obtain ⟨xs, n, _, _, hlen, hxl, hall⟩ := DataW.trod_array hu hx
    have key : cs.length = m * t.size ∧ ∀ i, i < m → ∃ y, DataW.trod enc P W 0 spare held n e ((cs.drop (i * t.size)).take t.size) = some y :=
      ⟨by rw [hlen, hT], fun i hi => ⟨xs[i], by have h1 := hall i hi; rw [hc] at h1; exact h1.trans (List.getElem?_eq_getElem (by omega))⟩⟩
    obtain ⟨l, h1, h2⟩ := exists_list (Q := fun i d => R W (fun b => b < W.heap.size) t d ((cs.drop (i * t.size)).take t.size)) m fun i hi => by
      obtain ⟨y, hy⟩ := key.2 i hi
      exact ih.1 ha he hy
    exact ⟨l, by simp only [R]; exact ⟨h1, key.1, h2⟩⟩
  | unit =>
    refine ⟨fun _ h hx => ?_, fun _ h _ hl => ?_⟩
    · have hc := h.cellsOf
      simp only [TOK] at h
      obtain ⟨_, _, fs, hu, _⟩ := h
      obtain ⟨xs, n, _, _, hlen, _⟩ := DataW.trod_struct hu hx
      rw [hc] at hlen
      exact ⟨(), by simp only [R]; exact List.eq_nil_of_length_eq_zero hlen⟩
    · simp only [Ty.size, Nat.add_zero] at hl
      exact ⟨(), by simp only [R]; rw [List.drop_eq_nil_of_le (by omega)]⟩
  | pair a b iha ihb =>
    refine ⟨fun ha h hx => ?_, fun ha h hf hl => ?_⟩
    · simp only [Ty.okArg, Bool.and_eq_true] at ha
      have hc := h.cellsOf
      simp only [TOK] at h
      obtain ⟨_, _, fs, f, r, hu, hfs, h0, _, h1, h2⟩ := h
      obtain ⟨xs, n, _, _, hlen, hxl, hall⟩ := DataW.trod_struct hu hx
      have all : ∀ g ∈ f :: r, ∃ y, DataW.trod enc P W 0 spare held n g.type ((‹List Value›.drop g.offset).take (P.cellsOf g.type)) = some y := by
        intro g hg
        rw [← hfs] at hg
        obtain ⟨i, hi⟩ := List.getElem?_of_mem hg
        have h3 := hall i g (by simpa using hi)
        have h4 : i < xs.length := by rw [hxl]; simpa using (List.getElem?_eq_some_iff.1 hi).1
        exact ⟨_, h3.trans (List.getElem?_eq_getElem h4)⟩
      obtain ⟨y, hy⟩ := all f (by simp)
      rw [h0, List.drop_zero, h1.cellsOf] at hy
      obtain ⟨d1, e1⟩ := iha.1 ha.1 h1 hy
      obtain ⟨d2, e2⟩ := ihb.2 ha.2 h2 (fun g hg => all g (by simp [hg])) (by rw [hlen, hc]; rfl)
      exact ⟨(d1, d2), by simp only [R]; exact ⟨e1, e2⟩⟩
    · simp only [Ty.okArg, Bool.and_eq_true] at ha
      simp only [FOK] at h
      obtain ⟨f, r', rfl, ho, _, h1, h2⟩ := h
      obtain ⟨y, hy⟩ := hf f (by simp)
      rw [ho, h1.cellsOf] at hy
      obtain ⟨d1, e1⟩ := iha.1 ha.1 h1 hy
      obtain ⟨d2, e2⟩ := ihb.2 ha.2 h2 (fun g hg => hf g (by simp [hg])) (by rw [hl]; simp only [Ty.size]; omega)
      refine ⟨(d1, d2), ?_⟩
      simp only [R]
      refine ⟨e1, ?_⟩
      rw [List.drop_drop]
      exact e2
  | opq k => exact ⟨fun ha => by simp [Ty.okArg] at ha, fun ha => by simp [Ty.okArg] at ha⟩

theorem cellOk_one {base : Nat} {r : Reach} {T : TypeId} {v : Value} (h : Cell.okWide P W r base T v) : v.cells = #[v] := by
  cases v with
  | agg cs =>
    unfold Cell.okWide Cell.ok at h
    split at h <;> simp_all
  | _ => rfl
theorem shape_of {t : Ty} {T : TypeId} {v : Value} {base : Nat} {r : Reach} (h : TOK P t T) (hw : Value.okWide P W r base T v) : Shape t v := by
  unfold Value.okWide at hw
  cases t with
  | int | bool | str => simp only [TOK] at h; rw [h.2] at hw; exact ⟨fun h => by simp [Ty.isAgg] at h, fun _ => cellOk_one hw⟩
  | sl t => simp only [TOK] at h; obtain ⟨_, e, hu, _⟩ := h; rw [hu] at hw; exact ⟨fun h => by simp [Ty.isAgg] at h, fun _ => cellOk_one hw⟩
  | arr n t => simp only [TOK] at h; obtain ⟨_, e, hu, _⟩ := h; rw [hu] at hw; obtain ⟨cs, h1, _⟩ := hw; exact ⟨fun _ => ⟨cs, h1⟩, fun h => by simp [Ty.isAgg] at h⟩
  | unit => simp only [TOK] at h; obtain ⟨_, _, fs, hu, _⟩ := h; rw [hu] at hw; obtain ⟨cs, h1, _⟩ := hw; exact ⟨fun _ => ⟨cs, h1⟩, fun h => by simp [Ty.isAgg] at h⟩
  | pair a b => simp only [TOK] at h; obtain ⟨_, _, fs, f, r, hu, _⟩ := h; rw [hu] at hw; obtain ⟨cs, h1, _⟩ := hw; exact ⟨fun _ => ⟨cs, h1⟩, fun h => by simp [Ty.isAgg] at h⟩
  | opq k =>
    simp only [TOK] at h
    obtain ⟨_, d, hu, hd⟩ := h
    rw [hu] at hw
    cases k <;> cases d <;> simp [opqDesc] at hd <;> exact ⟨fun h => by simp [Ty.isAgg] at h, fun _ => cellOk_one hw⟩

/-- types of a law's arguments -/
def tokL (P : Program) : List Ty → List TypeId → Bool
  | [], [] => true
  | t :: ts, T :: Ts => t.okArg && tokB P t T && tokL P ts Ts
  | _, _ => false

theorem trodAll_args {μ : Mu} {base : Nat} : ∀ {ts : List Ty} {Ts : List TypeId} {vs : List Value} {ds : List (DataW H)} {p : List MemPlace}, tokL P ts Ts = true →
    DataW.TrodAll enc P W 0 spare held Ts vs ds p → (∀ (j : Nat) T v, Ts[j]? = some T → vs[j]? = some v → Value.okWide P W .any base T v) →
    ∃ d : LD (ts.map argSD), ArgsR (callEnv W [] μ fun _ => True) [] μ W (mkL (ts.map argSD) d) vs
  | [], [], [], _, _, _, _, _ => ⟨(), .nil⟩
  | t :: ts, T :: Ts, v :: vs, d :: ds, p, ht, hA, hv => by
    simp only [tokL, Bool.and_eq_true] at ht
    obtain ⟨⟨h1, h2⟩, h3⟩ := ht
    obtain ⟨p1, p2, ⟨fuel, hx⟩, hA', _⟩ := hA
    have htok := tokB_tok h2
    obtain ⟨d1, e1⟩ := (trod_R_F t).1 h1 htok hx
    obtain ⟨d2, e2⟩ := trodAll_args (μ := μ) (base := base) h3 hA' fun j T v hT hv' => hv (j + 1) T v (by simpa using hT) (by simpa using hv')
    refine ⟨(d1, d2), .cons (VR.v_iff.2 ⟨?_, shape_of htok (hv 0 T v rfl rfl)⟩) e2⟩
    have hs : R W (Sb (callEnv W [] μ fun _ => True) [] μ false) t d1 v.cells.toList := e1.sub fun b hb _ =>
      ⟨fun ⟨_, _, _, h, _⟩ => by simp [Store.get] at h, fun ⟨_, _, _, h, _⟩ => by simp [Store.get] at h, fun _ => ⟨rfl, trivial⟩⟩
    cases hf : t.flat with
    | true => exact hs.ofFlat hf
    | false => exact hs
  | [], [], _ :: _, _, _, _, hA, _ => by cases hA
  | [], _ :: _, _, _, _, ht, _, _ => by simp [tokL] at ht
  | _ :: _, [], _, _, _, ht, _, _ => by simp [tokL] at ht
  | _ :: _, _ :: _, [], _, _, _, hA, _ => by cases hA
  | _ :: _, _ :: _, _ :: _, [], _, _, hA, _ => by cases hA

theorem unA_mk {R : Type} : ∀ (s : SD) (d : s.D) (k : s.D → Option R), unA s (mkA s d) k = k d := by
  intro s
  induction s with
  | v g t => intro d k; cases g <;> simp [mkA, unA]
  | pr g t => intro d k; cases g <;> simp [mkA, unA]
  | cons a b iha ihb => intro d k; simp only [mkA, unA, iha, ihb]
  | ag a ih => intro d k; simp only [mkA, unA, ih]
  | _ => intro d k; simp [mkA, unA]
theorem unArg_mk {R : Type} (s : SD) (d : s.D) (k : s.D → Option R) : unArg s (mkA s d) k = k d := by
  cases s with
  | v g t => simp only [unArg, mkA, AV.isNils, Bool.false_eq_true, if_false]; exact unA_mk (.v g t) d k
  | _ => exact unA_mk _ d k
theorem unArgs_mk {R : Type} : ∀ (l : List SD) (d : LD l) (k : LD l → Option R), unArgs l (mkL l d) k = k d
  | [], _, _ => rfl
  | s :: l, d, k => by simp only [mkL, unArgs, unArg_mk, unArgs_mk]

/-- a law's run: it answers true, and leaves what was there -/
theorem law_calls {f : FuncId} {G : Callee} (hs : Sound P f G) {ts : List Ty} {Ts : List TypeId} (ht : tokL P ts Ts = true)
    (hG : ∀ d : LD (ts.map argSD), okL (ts.map argSD) d → G (AV × Store) 0 (mkL (ts.map argSD) d) [] (fun x ob => some (x, ob)) = some (.v true .bool true, []))
    {base : Nat} {vs : Array Value} {ds : List (DataW H)} {p : List MemPlace} (hA : DataW.TrodAll enc P W 0 spare held Ts vs.toList ds p)
    (hv : ∀ (j : Nat) T v, Ts[j]? = some T → vs[j]? = some v → Value.okWide P W .any base T v) :
    Calls P f vs W fun e W' => e = .returned (.bool true) ∧ Go.RowKit.Below W.heap.size W W' := by
  let μ : Mu := ⟨fun _ => none, fun _ => 0⟩
  obtain ⟨d, ha⟩ := trodAll_args (μ := μ) (base := base) ht hA fun j T v h1 h2 => hv j T v h1 (by simpa using h2)
  obtain ⟨x, ob', h1, h2⟩ := hs 0 _ _ _ _ (hG d ha.okL)
  simp only [Option.some.injEq, Prod.mk.injEq] at h1
  obtain ⟨rfl, rfl⟩ := h1
  have hR : Rel (callEnv W [] μ fun _ => True) [] μ W := {
    lent := fun n b h => by obtain ⟨_, _, h, _⟩ := h; simp [Store.get] at h
    size := Nat.le_refl _
    io := Io.refl _
    frame := fun _ _ _ => rfl
    own := fun n o x h => by simp [Store.get] at h
    inj := fun n m o o' x y h => by simp [Store.get] at h
    objs := fun n o h => by simp [Store.get] at h
    keep := fun n x c T h => by simp [callEnv, Store.get] at h }
  refine Calls.mono (h2 W μ (fun _ => True) vs hR ha) ?_
  rintro e W' ⟨v, μ', rfl, h3, h4⟩
  obtain rfl := h4.bool
  exact ⟨rfl, h3.io.1, h3.io.2.2, h3.io.2.1, h3.size, fun k hk => h3.frame k hk fun ⟨_, _, _, h, _⟩ => by simp [Store.get] at h⟩
end
end Go.Eng

/- The engine, part 37: words for proofs about printed trees. -/
namespace Go.Eng

section
variable {R : Type} {Good : Option R → Prop}
theorem gD {p : Prop} [Decidable p] {x y : Option R} (h1 : p → Good x) (h2 : ¬ p → Good y) : Good (if decide p = true then x else y) := by
  by_cases h : p
  · simpa [h] using h1 h
  · simpa [h] using h2 h
theorem gE {a b : Int} {x y : Option R} (h1 : a = b → Good x) (h2 : a ≠ b → Good y) : Good (if (a == b) = true then x else y) := by
  by_cases h : a = b
  · simpa [h] using h1 h
  · simpa [h] using h2 h
theorem gN {a b : Int} {x y : Option R} (h1 : a ≠ b → Good x) (h2 : a = b → Good y) : Good (if (a != b) = true then x else y) := by
  by_cases h : a = b
  · simpa [h] using h2 h
  · simpa [h] using h1 h
theorem gB {b : Bool} {x y : Option R} (h1 : b = true → Good x) (h2 : b = false → Good y) : Good (if b = true then x else y) := by
  cases b
  · simpa using h2 rfl
  · simpa using h1 rfl
theorem gNB {b : Bool} {x y : Option R} (h1 : b = false → Good x) (h2 : b = true → Good y) : Good (if (!b) = true then x else y) := by
  cases b
  · simpa using h1 rfl
  · simpa using h2 rfl
theorem gI {p : Prop} [Decidable p] {x y : Option R} (h1 : p → Good x) (h2 : ¬ p → Good y) : Good (if p then x else y) := by
  by_cases h : p
  · rw [if_pos h]; exact h1 h
  · rw [if_neg h]; exact h2 h
theorem gC {p : Prop} [Decidable p] {x : Option R} (h1 : p) (h2 : p → Good x) : Good (if p then x else none) := by
  rw [if_pos h1]; exact h2 h1
theorem gNone {p : Prop} [Decidable p] {x : Option R} (h1 : ¬ p) (h2 : ¬ p → Good x) : Good (if p then none else x) := by
  rw [if_neg h1]; exact h2 h1
theorem gL {α : Type} {v : α} {f : α → Option R} (h : ∀ x, x = v → Good (f x)) : Good (lett v f) := h v rfl
theorem gNeed {p : Prop} {x : Option R} (h1 : p) (h2 : p → Good x) : Good (need p x) := by rw [need_pos h1]; exact h2 h1
theorem gS {A B : Type} {s : A ⊕ B} {f : A → Option R} {g : B → Option R} (h1 : ∀ a, s = .inl a → Good (f a)) (h2 : ∀ b, s = .inr b → Good (g b)) : Good (caseS s f g) := by
  cases s with
  | inl a => exact h1 a rfl
  | inr b => exact h2 b rfl
end

theorem w64 {x : Int} (h1 : -9223372036854775808 ≤ x) (h2 : x ≤ 9223372036854775807) : wi64 x = x := by
  unfold wi64 IntKind.wrap
  simp [IntKind.bits, IntKind.signed]
  omega
theorem wu8_id {x : Int} (h1 : 0 ≤ x) (h2 : x ≤ 255) : wu8 x = x := by
  unfold wu8 IntKind.wrap
  simp [IntKind.bits, IntKind.signed]
  omega
theorem maxI_eq : maxI = 9223372036854775807 := rfl
theorem room_eq : room = 140737488355328 := rfl
theorem dropAt {α : Type} {l : List α} {i : Int} (h0 : 0 ≤ i) (h1 : i < l.length) (z : α) : l.drop i.toNat = l.getD i.toNat z :: l.drop (i + 1).toNat := by
  have h2 : i.toNat < l.length := by omega
  rw [List.drop_eq_getElem_cons h2, show (i + 1).toNat = i.toNat + 1 by omega]
  simp [List.getD, List.getElem?_eq_getElem h2]
theorem okSl {t : Ty} {l : List t.D} (h : okT (.sl t) l) : (l.length : Int) ≤ 9223372036854775807 := by
  have := h.1; rw [maxI_eq] at this; omega
theorem okInt {n : Int} (h : okT (.int .i64) n) : -9223372036854775808 ≤ n ∧ n ≤ 9223372036854775807 := by
  have : ok .i64 n := h
  unfold ok IntKind.min IntKind.max at this
  simp [IntKind.bits, IntKind.signed] at this
  omega
theorem okByte {n : Int} (h : okT (.int .u8) n) : 0 ≤ n ∧ n ≤ 255 := by
  have : ok .u8 n := h
  unfold ok IntKind.min IntKind.max at this
  simp [IntKind.bits, IntKind.signed] at this
  omega
end Go.Eng

