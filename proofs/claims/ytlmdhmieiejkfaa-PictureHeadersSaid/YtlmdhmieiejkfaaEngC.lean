/- The engine: a machine that runs loaded code on plain data, and its soundness against the model. -/
import Derived.Test.YtlmdhmieiejkfaaEngB
import Derived.ChangeArms
import Derived.DataReads
import Derived.Below
import Derived.OpenShut
import Derived.Laws.Cover3
/- The engine: drawn regions in whatever order. -/
namespace Go.Eng
section
variable {P : Program} {C : Ctx} {Rr : Type} {r : Rr}

theorem sig_congr {ops : Array Oper} {outs outs' : List Out} {st : St} : ∀ (L : List Nat), (∀ j ∈ L, outAt outs j = outAt outs' j) → sig ops outs st L = sig ops outs' st L
  | [], _ => rfl
  | i :: L, h => by
    have h1 := h i (by simp)
    unfold outAt at h1
    rw [sig, sig, sig_congr L fun j hj => h j (by simp [hj]), h1]
/-- less is known of the slots, the same of all else -/
def More (m s : St) : Prop := s.sl = m.sl ∧ ∀ n x, m.ob.get n = some x → s.ob.get n = some x
/-- what is known of operation number i -/
def FactX (P : Program) (ops : Array Oper) (st : St) (pre : List Out) (i : Nat) (o : Oper) (x : Out) : Prop :=
  (GuardF ops pre i o true ∧ okI ops (mAt ops pre st i o) i o = true ∧
    (x.2 = none ∧ (∀ s, More (mAt ops pre st i o) s → ∀ E, QuietS P E s o x.1) ∨
     ∃ ob, allocB o.op = true ∧ x.2 = some (nm (o.dst.getD 0) 0, ob) ∧
       ∀ s : St, (∀ y ∈ o.op.operands, s.ev y = (mAt ops pre st i o).ev y) → ∀ E, OpS P E s o x.1 (s.new (nm (o.dst.getD 0) 0) ob))) ∨
  (GuardF ops pre i o false ∧ x = (.tup .nil, none))

theorem quiet_wp {o : Oper} {a : Act} {w : World} {v : Value} (h : o.quietAt P a (Ext w) w v) {next : Act → World → Prop} {Q : Exit → Act → World → Prop}
    (hn : ∀ w', Ext w w' → next (a.put o.dst v) w') : o.wp P a w next Q := by
  have hr : Ext w w := ⟨Nat.le_refl _, ⟨rfl, rfl, rfl⟩, fun _ _ => rfl⟩
  unfold Oper.quietAt at h
  unfold Oper.wp
  generalize (execOp a.eval o).run P w = res at h
  cases res with
  | ok n w' =>
    cases n with
    | value u =>
      obtain ⟨rfl, rfl⟩ := h
      rw [Oper.upon_value]; exact hn _ hr
    | skip =>
      obtain ⟨rfl, rfl⟩ := h
      rw [Oper.upon_skip]; exact hn _ hr
    | enter f args =>
      obtain ⟨rfl, h⟩ := h
      rw [Oper.upon_enter]
      refine Calls.mono h fun e w'' ⟨he, hw⟩ => ?_
      subst he
      exact hn _ hw
    | _ => exact h.elim
  | halt => exact h.elim

theorem okG_lt {ops : Array Oper} {st : St} (h : okG ops st = true) {i j : Nat} (hi : i < ops.size) (hj : j ∈ deps ops i) : j < i := by
  unfold okG at h
  have := List.all_eq_true.1 h i (List.mem_range.2 hi)
  simp only [Bool.and_eq_true] at this
  simpa using List.all_eq_true.1 this.1.1 j hj
theorem deps_size {ops : Array Oper} {i j : Nat} (hj : j ∈ deps ops i) : i < ops.size := by
  unfold deps at hj
  cases ho : ops[i]? with
  | none => simp [ho] at hj
  | some o => exact (Array.getElem?_eq_some_iff.1 ho).1
theorem dst_size {ops : Array Oper} {i d : Nat} (h : dstOf ops i = some d) : i < ops.size := by
  unfold dstOf at h
  cases ho : ops[i]? with
  | none => simp [ho] at h
  | some o => exact (Array.getElem?_eq_some_iff.1 ho).1
theorem okG_dst {ops : Array Oper} {st : St} (h : okG ops st = true) {i d : Nat} (hd : dstOf ops i = some d) : d < st.sl.length ∧ ∀ j, j < i → dstOf ops j ≠ some d := by
  unfold okG at h
  have := List.all_eq_true.1 h i (List.mem_range.2 (dst_size hd))
  simp only [Bool.and_eq_true, hd, Option.map_some, Option.getD_some] at this
  obtain ⟨⟨_, h1, h2⟩, _⟩ := this
  refine ⟨by simpa using h1, fun j hj => ?_⟩
  simpa using List.all_eq_true.1 h2 j (List.mem_range.2 hj)
theorem okG_inj {ops : Array Oper} {st : St} (h : okG ops st = true) : Inj ops := fun i j d hi hj => by
  rcases Nat.lt_trichotomy i j with hl | hl | hl
  · exact absurd hi ((okG_dst h hj).2 i hl)
  · exact hl
  · exact absurd hj ((okG_dst h hi).2 j hl)
theorem okG_fresh {ops : Array Oper} {st : St} (h : okG ops st = true) {i : Nat} (ha : allocAt ops i = true) : (∃ d, dstOf ops i = some d) ∧ st.ob.get (nameOf ops i) = none := by
  have hi : i < ops.size := by
    unfold allocAt at ha
    cases ho : ops[i]? with
    | none => simp [ho] at ha
    | some o => exact (Array.getElem?_eq_some_iff.1 ho).1
  unfold okG at h
  have := List.all_eq_true.1 h i (List.mem_range.2 hi)
  simp only [Bool.and_eq_true, Bool.or_eq_true, ha, Bool.not_true] at this
  obtain ⟨_, h3⟩ := this
  simp at h3
  exact ⟨Option.isSome_iff_exists.1 h3.1, by simpa using h3.2⟩

/-- whatever the order -/
theorem anyD {ops : Array Oper} {st : St} {outs : List Out} {E : Env} {Q : Exit → Act → World → Prop} (hG : okG ops st = true)
    (hlen : outs.length = ops.size) (hF : ∀ i o, ops[i]? = some o → FactX P ops st outs i o (outAt outs i))
    (hQ : ∀ μ a w, StR E (sig ops outs st (List.range ops.size).reverse) μ a w → Q .normal a w) :
    ∀ (fuel : Nat) (listed : Array Bool) (U L : List Nat) (μ : Mu) (a : Act) (w : World), (∀ i, i < ops.size → (listed.getD i false = true ↔ i ∉ U)) → listed.size = ops.size → U.Nodup → U.length = fuel →
      (∀ i ∈ U, i < ops.size) → (∀ i, i ∈ L ↔ i < ops.size ∧ i ∉ U) → (∀ i ∈ L, ∀ j ∈ deps ops i, j ∈ L) → StR E (sig ops outs st L) μ a w → wpAny P .any ops Q fuel listed a w := by
  have hI := okG_inj hG
  have hnew : ∀ i n, newOf outs i = some n → i < ops.size → allocAt ops i = true ∧ n = nameOf ops i := fun i n hn hi => by
    obtain ⟨o, ho⟩ : ∃ o, ops[i]? = some o := ⟨ops[i], Array.getElem?_eq_some_iff.2 ⟨hi, rfl⟩⟩
    have hx : (outAt outs i).2.map (·.1) = some n := hn
    have hd : dstOf ops i = o.dst := by unfold dstOf; rw [ho]; rfl
    rcases hF i o ho with ⟨_, _, ⟨h1, _⟩ | ⟨ob, h1, h2, _⟩⟩ | ⟨_, h1⟩
    · rw [h1] at hx; cases hx
    · rw [h2] at hx
      simp only [Option.map_some, Option.some.injEq] at hx
      exact ⟨by unfold allocAt; rw [ho]; exact h1, by unfold nameOf; rw [hd]; exact hx.symm⟩
    · rw [h1] at hx; cases hx
  have hIN : InjN outs := fun i j n hi hj => by
    have sz : ∀ i, newOf outs i = some n → i < ops.size := fun i hi => by
      rw [← hlen]
      refine Nat.lt_of_not_le fun hl => ?_
      unfold newOf at hi
      simp [List.getD, List.getElem?_eq_none hl] at hi
    obtain ⟨a1, e1⟩ := hnew i n hi (sz i hi)
    obtain ⟨a2, e2⟩ := hnew j n hj (sz j hj)
    obtain ⟨⟨d1, h1⟩, _⟩ := okG_fresh hG a1
    obtain ⟨⟨d2, h2⟩, _⟩ := okG_fresh hG a2
    rw [e1] at e2
    unfold nameOf at e2
    rw [h1, h2] at e2
    simp only [Option.getD_some, nm] at e2
    have : d1 = d2 := by omega
    subst this
    exact hI i j d1 h1 h2
  have getD_eq : ∀ (listed : Array Bool) (j : Nat), j < listed.size → listed.getD j true = listed.getD j false := fun listed j hj => by simp [Array.getD, hj]
  intro fuel
  induction fuel with
  | zero =>
    intro listed U L μ a w hU hsz _ h0 _ hL _ hS
    obtain rfl : U = [] := List.length_eq_zero_iff.1 h0
    refine ⟨List.eq_nil_iff_forall_not_mem.2 fun j hj => ?_, hQ μ a w (hS.same (by rw [sig_len, sig_len]) (fun d => sig_same hI fun i hi => ?_) fun n => sigo_same hIN fun i hi => ?_)⟩
    · obtain ⟨h1, o, ho, _⟩ := mem_ready.1 hj
      have hj' := (Array.getElem?_eq_some_iff.1 ho).1
      rw [getD_eq listed j (by omega), (hU j hj').2 (by simp)] at h1
      cases h1
    · rw [hL]; simp [dst_size hi]
    · have : i < ops.size := by
        rw [← hlen]
        refine Nat.lt_of_not_le fun hl => ?_
        unfold newOf at hi
        simp [List.getD, List.getElem?_eq_none hl] at hi
      rw [hL]; simp [this]
  | succ fuel ih =>
    intro listed U L μ a w hU hsz hnd hlU hUs hL hcl hS
    have dep_iff : ∀ i o, ops[i]? = some o → ((∀ e ∈ o.after, Region.binds .any e = true → listed.getD e.on false = true) ↔ ∀ j ∈ deps ops i, listed.getD j false = true) := fun i o ho => by
      unfold deps
      rw [ho]
      simp only [List.mem_map, List.mem_filter]
      constructor
      · rintro h j ⟨e, ⟨h1, h2⟩, rfl⟩
        exact h e (by simpa using h1) h2
      · intro h e h1 h2
        exact h e.on ⟨e, ⟨by simpa using h1, h2⟩, rfl⟩
    have inL : ∀ j, listed.getD j false = true → j ∈ L := fun j hj => by
      have hjs : j < ops.size := by
        rw [← hsz]
        refine Nat.lt_of_not_le fun hl => ?_
        simp [Array.getD, Nat.not_lt.2 hl] at hj
      exact (hL j).2 ⟨hjs, (hU j hjs).1 hj⟩
    refine ⟨fun hr => ?_, fun i hi => ?_⟩
    · exfalso
      have key : ∀ i, i ∈ U → False := fun i => by
        induction i using Nat.strongRecOn with
        | ind i ihi =>
          intro hiU
          have his := hUs i hiU
          obtain ⟨o, ho⟩ : ∃ o, ops[i]? = some o := ⟨ops[i], Array.getElem?_eq_some_iff.2 ⟨his, rfl⟩⟩
          have : i ∈ Region.ready .any ops listed := by
            refine mem_ready.2 ⟨?_, o, ho, (dep_iff i o ho).2 fun j hj => ?_⟩
            · rw [getD_eq listed i (by omega)]
              cases hb : listed.getD i false with
              | false => rfl
              | true => exact absurd hiU ((hU i his).1 hb)
            · have hlt := okG_lt hG his hj
              exact (hU j (by omega)).2 fun hjU => ihi j hlt hjU
          rw [hr] at this
          simp at this
      cases U with
      | nil => simp at hlU
      | cons u U => exact key u (by simp)
    · obtain ⟨h1, o, ho, hdep⟩ := mem_ready.1 hi
      have his := (Array.getElem?_eq_some_iff.1 ho).1
      have hiU : i ∈ U := by
        refine Decidable.byContradiction fun hn => ?_
        rw [getD_eq listed i (by omega), (hU i his).2 hn] at h1
        cases h1
      have hiL : i ∉ L := fun h => ((hL i).1 h).2 hiU
      have hdL : ∀ j ∈ deps ops i, j ∈ L := fun j hj => inL j ((dep_iff i o ho).1 hdep j hj)
      have hA : ∀ j ∈ ancs ops ops.size (deps ops i), j ∈ L := ancs_in hcl _ _ hdL
      have hdst : dstOf ops i = o.dst := by unfold dstOf; rw [ho]; rfl
      have hHas : Has ops outs i (sig ops outs st L) := fun j hj d hd => sig_in hI hd (okG_dst hG hd).1 L (hdL j hj)
      -- what follows, once the state is that of i :: L
      have next : ∀ (μ' : Mu) (a' : Act) (w' : World), StR E (sig ops outs st (i :: L)) μ' a' w' → wpAny P .any ops Q fuel (listed.setIfInBounds i true) a' w' := fun μ' a' w' hS' => by
        refine ih _ (U.erase i) (i :: L) μ' a' w' (fun j hj => ?_) (by simpa using hsz) (hnd.erase i) (by rw [List.length_erase_of_mem hiU]; omega) (fun j hj => hUs j (List.mem_of_mem_erase hj)) (fun j => ?_) (fun j hj k hk => ?_) hS'
        · by_cases e : i = j
          · subst e
            have : (listed.setIfInBounds i true).getD i false = true := by simp [Array.getD, hsz, his]
            rw [this]
            simp [hnd.not_mem_erase]
          · rw [getD_set_ne false e, hU j hj, List.mem_erase_of_ne (fun h => e h.symm)]
        · rw [List.mem_cons, hL]
          by_cases e : j = i
          · subst e; simp [his, hnd.not_mem_erase]
          · rw [List.mem_erase_of_ne e]; simp [e]
        · rcases List.mem_cons.1 hj with rfl | hj
          · exact List.mem_cons_of_mem _ (hdL k hk)
          · exact List.mem_cons_of_mem _ (hcl j hj k hk)
      unfold wpOp
      rw [ho]
      simp only
      rcases hF i o ho with ⟨hg, hok, hx⟩ | ⟨hg, hx⟩
      · rw [hg hS hHas, if_pos rfl]
        refine .inl ?_
        have hout : outs.getD i (.dead, none) = outAt outs i := rfl
        have free : ∀ j, j ∈ L → j ∉ ancs ops ops.size (deps ops i) → ∀ d, dstOf ops j = some d → d ∉ looks o := fun j hj hn d hd hm => by
          unfold okI at hok
          have := List.all_eq_true.1 hok j (List.mem_range.2 (dst_size hd))
          simp only [Bool.or_eq_true, Bool.and_eq_true, List.contains_iff_mem] at this
          rcases this with h | ⟨h | h, _⟩
          · exact hn h
          · have : j = i := by simpa using h
            exact hiL (this ▸ hj)
          · simp [hd, hm] at h
        have hsl : ∀ d, (mAt ops outs st i o).sl.getD d .dead = .dead ∨ (mAt ops outs st i o).sl.getD d .dead = (sig ops outs st L).sl.getD d .dead := fun d => by
          unfold mAt
          simp only
          rw [maskO_get, Nat.zero_add]
          split
          · rename_i hd
            refine .inr (sig_same hI fun j hj => ⟨fun h => hA j h, fun h => ?_⟩)
            refine Decidable.byContradiction fun hn => ?_
            exact free j h hn d hj (by simpa using hd)
          · exact .inl rfl
        have hml : (mAt ops outs st i o).sl.length = (sig ops outs st L).sl.length := by unfold mAt; simp only; rw [maskO_len, sig_len, sig_len]
        rcases hx with ⟨hx, hq⟩ | ⟨ob, ha, hx, hq⟩
        · have hob : ∀ n x, (mAt ops outs st i o).ob.get n = some x → (sig ops outs st L).ob.get n = some x := fun n x hnx => by
            have hnx : (sig ops outs st (ancs ops ops.size (deps ops i))).ob.get n = some x := hnx
            by_cases he : ∃ j ∈ L, newOf outs j = some n ∧ j ∉ ancs ops ops.size (deps ops i)
            · obtain ⟨j, hj, hn, hna⟩ := he
              rw [sigo_out _ fun j' hj' hn' => hna (hIN j' j n hn' hn ▸ hj')] at hnx
              obtain ⟨h2, h3⟩ := hnew j n hn ((hL j).1 hj).1
              rw [h3, (okG_fresh hG h2).2] at hnx
              cases hnx
            · rw [← hnx]
              exact sigo_same hIN fun j hj => ⟨fun h => Decidable.byContradiction fun hna => he ⟨j, h, hj, hna⟩, fun h => hA j h⟩
          have hM : More (mAt ops outs st i o) { sl := (mAt ops outs st i o).sl, ob := (sig ops outs st L).ob } := ⟨rfl, hob⟩
          have hS' : StR E { sl := (mAt ops outs st i o).sl, ob := (sig ops outs st L).ob } μ a w := hS.below hml hsl (fun n x h => h) fun _ _ => rfl
          obtain ⟨v, h3, h4⟩ := hq _ hM E μ a w hS'
          refine quiet_wp (h3 w ⟨Nat.le_refl _, ⟨rfl, rfl, rfl⟩, fun _ _ => rfl⟩) fun w' hw => next μ _ _ ?_
          have : StR E ((sig ops outs st L).set o.dst (outAt outs i).1) μ (a.put o.dst v) w' := (hS.set h4 o.dst).ext hw
          rw [sig, hout, hdst, St.out, hx]
          exact this
        · have hev : ∀ y ∈ o.op.operands, (sig ops outs st L).ev y = (mAt ops outs st i o).ev y := fun y hy => by
            cases y with
            | tmp d =>
              show (sig ops outs st L).sl.getD d .dead = (mAt ops outs st i o).sl.getD d .dead
              have hd : d ∈ looks o := by
                unfold looks
                rw [List.mem_filterMap]
                exact ⟨_, by simpa using hy, rfl⟩
              unfold mAt
              simp only
              rw [maskO_get, Nat.zero_add, if_pos (by simpa using hd)]
              exact sig_same hI fun j hj => ⟨fun h => Decidable.byContradiction fun hn => free j h hn d hj hd, fun h => hA j h⟩
            | _ => rfl
          have hfr : (sig ops outs st L).ob.get (nm (o.dst.getD 0) 0) = none := by
            have hn : newOf outs i = some (nm (o.dst.getD 0) 0) := by unfold newOf; rw [hout, hx]; rfl
            obtain ⟨h2, h3⟩ := hnew i _ hn his
            rw [sigo_out L fun j hj hn' => hiL (hIN j i _ hn' hn ▸ hj), h3]
            exact (okG_fresh hG h2).2
          refine hq _ hev E μ a w hS _ _ fun μ' v w' h3 h4 => next μ' _ _ ?_
          have := h3.set h4 o.dst
          rw [sig, hout, hdst, St.out, hx]
          unfold St.new at this
          rw [hfr] at this
          exact this
      · rw [hg hS hHas, if_neg (by simp)]
        refine next μ _ _ ?_
        have : StR E ((sig ops outs st L).set o.dst (.tup .nil)) μ (a.put o.dst undef) w := hS.set (x := .tup .nil) ⟨#[], rfl, trivial⟩ o.dst
        have hout : outs.getD i (.dead, none) = outAt outs i := rfl
        rw [sig, hout, hdst, hx]
        exact this
/-- whatever the order: the first n0 operations; what is left is asked for one after the other -/
theorem anyT {ops ops0 : Array Oper} {n0 : Nat} {st : St} {outs : List Out} {E : Env} {Q : Exit → Act → World → Prop} (h0le : n0 ≤ ops.size) (hsz0 : ops0.size = n0) (h0 : ∀ i, i < n0 → ops0[i]? = ops[i]?)
    (hgd : ∀ o, o ∈ ops0.toList → ∀ j b, o.guard = some (j, b) → j < n0) (hT : ∀ t, n0 ≤ t → t < ops.size → ∀ j, j < n0 → j ∈ ancs ops ops.size (deps ops t)) (hG : okG ops0 st = true)
    (hlen : outs.length = ops0.size) (hF : ∀ i o, ops0[i]? = some o → FactX P ops0 st outs i o (outAt outs i))
    (hQ : ∀ μ a w, StR E (sig ops0 outs st (List.range n0).reverse) μ a w → wpAny P .any ops Q (ops.size - n0) (canon n0 ops.size) a w) :
    ∀ (fuel : Nat) (listed : Array Bool) (U L : List Nat) (μ : Mu) (a : Act) (w : World), (∀ i, i < ops.size → (listed.getD i false = true ↔ i < n0 ∧ i ∉ U)) → listed.size = ops.size → U.Nodup → U.length = fuel →
      (∀ i ∈ U, i < n0) → (∀ i, i ∈ L ↔ i < n0 ∧ i ∉ U) → (∀ i ∈ L, ∀ j ∈ deps ops0 i, j ∈ L) → StR E (sig ops0 outs st L) μ a w → wpAny P .any ops Q (fuel + (ops.size - n0)) listed a w := by
  have hdeps : ∀ i, i < n0 → deps ops0 i = deps ops i := fun i hi => by unfold deps; rw [h0 i hi]
  have hwant : ∀ o, o ∈ ops0.toList → ∀ tm, Region.wanted o (yielded ops tm) = Region.wanted o (yielded ops0 tm) := fun o ho tm => by
    unfold Region.wanted
    cases hgu : o.guard with
    | none => rfl
    | some p =>
      obtain ⟨j, b⟩ := p
      have hj := hgd o ho j b hgu
      have : yielded ops tm j = yielded ops0 tm j := by unfold yielded; rw [h0 j hj]
      simp only [this]
  have hI := okG_inj hG
  have hnew : ∀ i n, newOf outs i = some n → i < ops0.size → allocAt ops0 i = true ∧ n = nameOf ops0 i := fun i n hn hi => by
    obtain ⟨o, ho⟩ : ∃ o, ops0[i]? = some o := ⟨ops0[i], Array.getElem?_eq_some_iff.2 ⟨hi, rfl⟩⟩
    have hx : (outAt outs i).2.map (·.1) = some n := hn
    have hd : dstOf ops0 i = o.dst := by unfold dstOf; rw [ho]; rfl
    rcases hF i o ho with ⟨_, _, ⟨h1, _⟩ | ⟨ob, h1, h2, _⟩⟩ | ⟨_, h1⟩
    · rw [h1] at hx; cases hx
    · rw [h2] at hx
      simp only [Option.map_some, Option.some.injEq] at hx
      exact ⟨by unfold allocAt; rw [ho]; exact h1, by unfold nameOf; rw [hd]; exact hx.symm⟩
    · rw [h1] at hx; cases hx
  have hIN : InjN outs := fun i j n hi hj => by
    have sz : ∀ i, newOf outs i = some n → i < ops0.size := fun i hi => by
      rw [← hlen]
      refine Nat.lt_of_not_le fun hl => ?_
      unfold newOf at hi
      simp [List.getD, List.getElem?_eq_none hl] at hi
    obtain ⟨a1, e1⟩ := hnew i n hi (sz i hi)
    obtain ⟨a2, e2⟩ := hnew j n hj (sz j hj)
    obtain ⟨⟨d1, h1⟩, _⟩ := okG_fresh hG a1
    obtain ⟨⟨d2, h2⟩, _⟩ := okG_fresh hG a2
    rw [e1] at e2
    unfold nameOf at e2
    rw [h1, h2] at e2
    simp only [Option.getD_some, nm] at e2
    have : d1 = d2 := by omega
    subst this
    exact hI i j d1 h1 h2
  have getD_eq : ∀ (listed : Array Bool) (j : Nat), j < listed.size → listed.getD j true = listed.getD j false := fun listed j hj => by simp [Array.getD, hj]
  intro fuel
  induction fuel with
  | zero =>
    intro listed U L μ a w hU hsz _ hf0 _ hL _ hS
    obtain rfl : U = [] := List.length_eq_zero_iff.1 hf0
    have hcan : listed = canon n0 ops.size := by
      apply Array.ext
      · simp [canon, hsz]
      · intro j hj1 hj2
        have h1 := hU j (by omega)
        have h2 : listed.getD j false = listed[j] := by simp [Array.getD, hj1]
        rw [h2] at h1
        have h3 : (canon n0 ops.size)[j] = decide (j < n0) := by simp [canon]
        rw [h3]
        cases hb : listed[j] with
        | true => rw [hb] at h1; simpa using (h1.1 rfl)
        | false =>
          rw [hb] at h1
          have : ¬ j < n0 := fun h => by have := h1.2 ⟨h, by simp⟩; cases this
          simp [this]
    rw [Nat.zero_add, hcan]
    refine hQ μ a w (hS.same (by rw [sig_len, sig_len]) (fun d => sig_same hI fun i hi => ?_) fun n => sigo_same hIN fun i hi => ?_)
    · have := dst_size hi
      rw [hL]; simp <;> omega
    · have : i < ops0.size := by
        rw [← hlen]
        refine Nat.lt_of_not_le fun hl => ?_
        unfold newOf at hi
        simp [List.getD, List.getElem?_eq_none hl] at hi
      rw [hL]; simp <;> omega
  | succ fuel ih =>
    intro listed U L μ a w hU hsz hnd hlU hUs hL hcl hS
    rw [show fuel + 1 + (ops.size - n0) = fuel + (ops.size - n0) + 1 by omega]
    have dep_iff : ∀ i o, ops[i]? = some o → ((∀ e ∈ o.after, Region.binds .any e = true → listed.getD e.on false = true) ↔ ∀ j ∈ deps ops i, listed.getD j false = true) := fun i o ho => by
      unfold deps
      rw [ho]
      simp only [List.mem_map, List.mem_filter]
      constructor
      · rintro h j ⟨e, ⟨h1, h2⟩, rfl⟩
        exact h e (by simpa using h1) h2
      · intro h e h1 h2
        exact h e.on ⟨e, ⟨by simpa using h1, h2⟩, rfl⟩
    have inL : ∀ j, listed.getD j false = true → j ∈ L := fun j hj => by
      have hjs : j < ops.size := by
        rw [← hsz]
        refine Nat.lt_of_not_le fun hl => ?_
        simp [Array.getD, Nat.not_lt.2 hl] at hj
      exact (hL j).2 ((hU j hjs).1 hj)
    refine ⟨fun hr => ?_, fun i hi => ?_⟩
    · exfalso
      have key : ∀ i, i ∈ U → False := fun i => by
        induction i using Nat.strongRecOn with
        | ind i ihi =>
          intro hiU
          have hin := hUs i hiU
          have his : i < ops.size := by omega
          obtain ⟨o, ho⟩ : ∃ o, ops[i]? = some o := ⟨ops[i], Array.getElem?_eq_some_iff.2 ⟨his, rfl⟩⟩
          have : i ∈ Region.ready .any ops listed := by
            refine mem_ready.2 ⟨?_, o, ho, (dep_iff i o ho).2 fun j hj => ?_⟩
            · rw [getD_eq listed i (by omega)]
              cases hb : listed.getD i false with
              | false => rfl
              | true => exact absurd hiU ((hU i his).1 hb).2
            · have hlt := okG_lt hG (by omega) ((hdeps i hin).symm ▸ hj)
              exact (hU j (by omega)).2 ⟨by omega, fun hjU => ihi j hlt hjU⟩
          rw [hr] at this
          simp at this
      cases U with
      | nil => simp at hlU
      | cons u U => exact key u (by simp)
    · obtain ⟨h1, o, ho, hdep⟩ := mem_ready.1 hi
      have his := (Array.getElem?_eq_some_iff.1 ho).1
      have hdL' : ∀ j ∈ deps ops i, j ∈ L := fun j hj => inL j ((dep_iff i o ho).1 hdep j hj)
      have hin : i < n0 := by
        refine Nat.lt_of_not_le fun hle => ?_
        cases hu : U with
        | nil => rw [hu] at hlU; simp at hlU
        | cons u U' =>
          have huU : u ∈ U := by rw [hu]; simp
          have := ancs_in (ops := ops) (L := L) (fun i hi j hj => hcl i hi j ((hdeps i ((hL i).1 hi).1).symm ▸ hj)) ops.size _ hdL' u (hT i hle his u (hUs u huU))
          exact ((hL u).1 this).2 huU
      have ho' := ho
      rw [← h0 i hin] at ho'
      have hmemo : o ∈ ops0.toList := by
        have := Array.mem_of_getElem? ho'
        simpa using this
      have hiU : i ∈ U := by
        refine Decidable.byContradiction fun hn => ?_
        rw [getD_eq listed i (by omega), (hU i his).2 ⟨hin, hn⟩] at h1
        cases h1
      have hiL : i ∉ L := fun h => ((hL i).1 h).2 hiU
      have hdL : ∀ j ∈ deps ops0 i, j ∈ L := fun j hj => hdL' j ((hdeps i hin) ▸ hj)
      have hA : ∀ j ∈ ancs ops0 ops0.size (deps ops0 i), j ∈ L := ancs_in hcl _ _ hdL
      have hdst : dstOf ops0 i = o.dst := by unfold dstOf; rw [ho']; rfl
      have hHas : Has ops0 outs i (sig ops0 outs st L) := fun j hj d hd => sig_in hI hd (okG_dst hG hd).1 L (hdL j hj)
      -- what follows, once the state is that of i :: L
      have next : ∀ (μ' : Mu) (a' : Act) (w' : World), StR E (sig ops0 outs st (i :: L)) μ' a' w' → wpAny P .any ops Q (fuel + (ops.size - n0)) (listed.setIfInBounds i true) a' w' := fun μ' a' w' hS' => by
        refine ih _ (U.erase i) (i :: L) μ' a' w' (fun j hj => ?_) (by simpa using hsz) (hnd.erase i) (by rw [List.length_erase_of_mem hiU]; omega) (fun j hj => hUs j (List.mem_of_mem_erase hj)) (fun j => ?_) (fun j hj k hk => ?_) hS'
        · by_cases e : i = j
          · subst e
            have : (listed.setIfInBounds i true).getD i false = true := by simp [Array.getD, hsz, his]
            rw [this]
            simp [hnd.not_mem_erase, hin]
          · rw [getD_set_ne false e, hU j hj, List.mem_erase_of_ne (fun h => e h.symm)]
        · rw [List.mem_cons, hL]
          by_cases e : j = i
          · subst e; simp [hin, hnd.not_mem_erase]
          · rw [List.mem_erase_of_ne e]; simp [e]
        · rcases List.mem_cons.1 hj with rfl | hj
          · exact List.mem_cons_of_mem _ (hdL k hk)
          · exact List.mem_cons_of_mem _ (hcl j hj k hk)
      unfold wpOp
      rw [ho]
      simp only
      rcases hF i o ho' with ⟨hg, hok, hx⟩ | ⟨hg, hx⟩
      · rw [hwant o hmemo, hg hS hHas, if_pos rfl]
        refine .inl ?_
        have hout : outs.getD i (.dead, none) = outAt outs i := rfl
        have free : ∀ j, j ∈ L → j ∉ ancs ops0 ops0.size (deps ops0 i) → ∀ d, dstOf ops0 j = some d → d ∉ looks o := fun j hj hn d hd hm => by
          unfold okI at hok
          have := List.all_eq_true.1 hok j (List.mem_range.2 (dst_size hd))
          simp only [Bool.or_eq_true, Bool.and_eq_true, List.contains_iff_mem] at this
          rcases this with h | ⟨h | h, _⟩
          · exact hn h
          · have : j = i := by simpa using h
            exact hiL (this ▸ hj)
          · simp [hd, hm] at h
        have hsl : ∀ d, (mAt ops0 outs st i o).sl.getD d .dead = .dead ∨ (mAt ops0 outs st i o).sl.getD d .dead = (sig ops0 outs st L).sl.getD d .dead := fun d => by
          unfold mAt
          simp only
          rw [maskO_get, Nat.zero_add]
          split
          · rename_i hd
            refine .inr (sig_same hI fun j hj => ⟨fun h => hA j h, fun h => ?_⟩)
            refine Decidable.byContradiction fun hn => ?_
            exact free j h hn d hj (by simpa using hd)
          · exact .inl rfl
        have hml : (mAt ops0 outs st i o).sl.length = (sig ops0 outs st L).sl.length := by unfold mAt; simp only; rw [maskO_len, sig_len, sig_len]
        rcases hx with ⟨hx, hq⟩ | ⟨ob, ha, hx, hq⟩
        · have hob : ∀ n x, (mAt ops0 outs st i o).ob.get n = some x → (sig ops0 outs st L).ob.get n = some x := fun n x hnx => by
            have hnx : (sig ops0 outs st (ancs ops0 ops0.size (deps ops0 i))).ob.get n = some x := hnx
            by_cases he : ∃ j ∈ L, newOf outs j = some n ∧ j ∉ ancs ops0 ops0.size (deps ops0 i)
            · obtain ⟨j, hj, hn, hna⟩ := he
              rw [sigo_out _ fun j' hj' hn' => hna (hIN j' j n hn' hn ▸ hj')] at hnx
              obtain ⟨h2, h3⟩ := hnew j n hn (by rw [hsz0]; exact ((hL j).1 hj).1)
              rw [h3, (okG_fresh hG h2).2] at hnx
              cases hnx
            · rw [← hnx]
              exact sigo_same hIN fun j hj => ⟨fun h => Decidable.byContradiction fun hna => he ⟨j, h, hj, hna⟩, fun h => hA j h⟩
          have hM : More (mAt ops0 outs st i o) { sl := (mAt ops0 outs st i o).sl, ob := (sig ops0 outs st L).ob } := ⟨rfl, hob⟩
          have hS' : StR E { sl := (mAt ops0 outs st i o).sl, ob := (sig ops0 outs st L).ob } μ a w := hS.below hml hsl (fun n x h => h) fun _ _ => rfl
          obtain ⟨v, h3, h4⟩ := hq _ hM E μ a w hS'
          refine quiet_wp (h3 w ⟨Nat.le_refl _, ⟨rfl, rfl, rfl⟩, fun _ _ => rfl⟩) fun w' hw => next μ _ _ ?_
          have : StR E ((sig ops0 outs st L).set o.dst (outAt outs i).1) μ (a.put o.dst v) w' := (hS.set h4 o.dst).ext hw
          rw [sig, hout, hdst, St.out, hx]
          exact this
        · have hev : ∀ y ∈ o.op.operands, (sig ops0 outs st L).ev y = (mAt ops0 outs st i o).ev y := fun y hy => by
            cases y with
            | tmp d =>
              show (sig ops0 outs st L).sl.getD d .dead = (mAt ops0 outs st i o).sl.getD d .dead
              have hd : d ∈ looks o := by
                unfold looks
                rw [List.mem_filterMap]
                exact ⟨_, by simpa using hy, rfl⟩
              unfold mAt
              simp only
              rw [maskO_get, Nat.zero_add, if_pos (by simpa using hd)]
              exact sig_same hI fun j hj => ⟨fun h => Decidable.byContradiction fun hn => free j h hn d hj hd, fun h => hA j h⟩
            | _ => rfl
          have hfr : (sig ops0 outs st L).ob.get (nm (o.dst.getD 0) 0) = none := by
            have hn : newOf outs i = some (nm (o.dst.getD 0) 0) := by unfold newOf; rw [hout, hx]; rfl
            obtain ⟨h2, h3⟩ := hnew i _ hn (by omega)
            rw [sigo_out L fun j hj hn' => hiL (hIN j i _ hn' hn ▸ hj), h3]
            exact (okG_fresh hG h2).2
          refine hq _ hev E μ a w hS _ _ fun μ' v w' h3 h4 => next μ' _ _ ?_
          have := h3.set h4 o.dst
          rw [sig, hout, hdst, St.out, hx]
          unfold St.new at this
          rw [hfr] at this
          exact this
      · rw [hwant o hmemo, hg hS hHas, if_neg (by simp)]
        refine next μ _ _ ?_
        have : StR E ((sig ops0 outs st L).set o.dst (.tup .nil)) μ (a.put o.dst undef) w := hS.set (x := .tup .nil) ⟨#[], rfl, trivial⟩ o.dst
        have hout : outs.getD i (.dead, none) = outAt outs i := rfl
        rw [sig, hout, hdst, hx]
        exact this
end
end Go.Eng

/- The engine: drawn regions in whatever order. -/
namespace Go.Eng
section
variable {Rr : Type} {r : Rr} {k : AV → Option Rr}

theorem pickK_any {c a b : AV} (h : pickK c a b k = some r) : ∃ z, k z = some r ∧ ∀ (R' : Type) (k' : AV → Option R'), pickK c a b k' = k' z := by
  unfold pickK at h
  split at h
  · rename_i g c
    split at h
    · exact ⟨_, h, fun R' k' => rfl⟩
    · split at h
      · rename_i hj
        exact ⟨_, h, fun R' k' => by simp [pickK, hj]⟩
      · cases h
    · rename_i h1 h2
      have e : ∀ (R' : Type) (k' : AV → Option R'), pickK (.v g .bool c) a b k' = if c = true then k' a else k' b := fun R' k' => by
        unfold pickK
        simp only <;> (try split) <;> first
          | rfl
          | (exfalso; simp_all; done)
          | (simp_all; done)
      cases c with
      | true => exact ⟨a, by simpa using h, fun R' k' => by rw [e]; simp⟩
      | false => exact ⟨b, by simpa using h, fun R' k' => by rw [e]; simp⟩
  · cases h
theorem intK_any {op : BinOp} {j : IntKind} {a b : Int} (h : intK op j a b k = some r) : ∃ z, k z = some r ∧ ∀ (R' : Type) (k' : AV → Option R'), intK op j a b k' = k' z := by
  unfold intK at h
  split at h <;> first
    | exact ⟨_, h, fun R' k' => rfl⟩
    | (split at h <;> first
      | cases h
      | (rename_i hb; exact ⟨_, h, fun R' k' => by simp [intK, hb]⟩))
    | cases h
theorem shiftK_any {op : BinOp} {j : IntKind} {a b : Int} (h : shiftK op j a b k = some r) : ∃ z, k z = some r ∧ ∀ (R' : Type) (k' : AV → Option R'), shiftK op j a b k' = k' z := by
  unfold shiftK at h
  split at h <;> first
    | (split at h <;> first
      | cases h
      | (rename_i hb; exact ⟨_, h, fun R' k' => by simp [shiftK, hb]⟩))
    | cases h
theorem eqlK_any {op : BinOp} {e : Bool} (h : eqlK op e k = some r) : ∃ z, k z = some r ∧ ∀ (R' : Type) (k' : AV → Option R'), eqlK op e k' = k' z := by
  unfold eqlK at h
  split at h <;> first
    | exact ⟨_, h, fun R' k' => rfl⟩
    | cases h
theorem refK_any {tt : Option Ty} {op : BinOp} {x y : AV} (h : refK tt op x y k = some r) : ∃ z, k z = some r ∧ ∀ (R' : Type) (k' : AV → Option R'), refK tt op x y k' = k' z := by
  unfold refK at h ⊢
  split at h <;> first
    | cases h
    | (split at h <;> first
      | cases h
      | (rename_i hb; obtain ⟨z, h1, h2⟩ := eqlK_any h; exact ⟨z, h1, fun R' k' => by simp [*]⟩))
theorem unK_any {op : UnOp} {x : AV} (h : unK op x k = some r) : ∃ z, k z = some r ∧ ∀ (R' : Type) (k' : AV → Option R'), unK op x k' = k' z := by
  unfold unK at h
  split at h <;> first
    | exact ⟨_, h, fun R' k' => rfl⟩
    | cases h
theorem binK_any {tt : Option Ty} {op : BinOp} {x y : AV} (h : binK tt op x y k = some r) : ∃ z, k z = some r ∧ ∀ (R' : Type) (k' : AV → Option R'), binK tt op x y k' = k' z := by
  unfold binK at h ⊢
  split at h
  · split at h
    · rename_i hs; obtain ⟨z, h1, h2⟩ := shiftK_any h; exact ⟨z, h1, fun R' k' => by simp only [if_pos hs, h2]⟩
    · rename_i hs
      split at h
      · rename_i hj; obtain ⟨z, h1, h2⟩ := intK_any h; exact ⟨z, h1, fun R' k' => by simp only [if_neg hs, if_pos hj, h2]⟩
      · cases h
  · obtain ⟨z, h1, h2⟩ := eqlK_any h; exact ⟨z, h1, fun R' k' => h2 R' k'⟩
  · split at h
    · rename_i hs; obtain ⟨z, h1, h2⟩ := eqlK_any h; exact ⟨z, h1, fun R' k' => by simp only [if_pos hs, h2]⟩
    · cases h
  · rename_i n1 n2 n3
    split at h
    · rename_i ht
      split at h
      · rename_i hs
        obtain ⟨z, h1, h2⟩ := eqlK_any h
        refine ⟨z, h1, fun R' k' => ?_⟩
        split <;> first
          | (exfalso; simp_all; done)
          | (simp_all; done)
          | (rw [dif_pos ht, if_pos hs]; exact h2 R' k')
      · cases h
    · cases h
  · rename_i n1 n2 n3 n4
    obtain ⟨z, h1, h2⟩ := refK_any h
    exact ⟨z, h1, fun R' k' => h2 R' k'⟩

theorem gets_any : {t : Ty} → {d : t.D} → {p : Path} → {k : (t' : Ty) → t'.D → Option Rr} → gets t d p k = some r →
    ∃ t' d', k t' d' = some r ∧ ∀ (R' : Type) (k' : (t' : Ty) → t'.D → Option R'), gets t d p k' = k' t' d'
  | t, d, [], k, h => by
    rw [gets.eq_1] at h
    exact ⟨t, d, h, fun R' k' => by rw [gets.eq_1]⟩
  | .pair a b, d, .fld 0 :: p, k, h => by
    rw [gets.eq_2] at h
    obtain ⟨t', d', h1, h2⟩ := gets_any h
    exact ⟨t', d', h1, fun R' k' => by rw [gets.eq_2, h2]⟩
  | .pair a b, d, .fld (i + 1) :: p, k, h => by
    rw [gets.eq_3] at h
    obtain ⟨t', d', h1, h2⟩ := gets_any h
    exact ⟨t', d', h1, fun R' k' => by rw [gets.eq_3, h2]⟩
  | .arr n t, l, .idx i :: p, k, h => by
    rw [gets.eq_4] at h
    split at h
    · rename_i hi
      obtain ⟨t', d', h1, h2⟩ := gets_any h
      exact ⟨t', d', h1, fun R' k' => by rw [gets.eq_4, if_pos hi, h2]⟩
    · cases h
  | .int _, _, _ :: _, _, h | .bool, _, _ :: _, _, h | .str, _, _ :: _, _, h | .unit, _, _ :: _, _, h | .sl _, _, _ :: _, _, h | .opq _, _, _ :: _, _, h => by simp [gets] at h
  | .pair _ _, _, .idx _ :: _, _, h => by simp [gets] at h
  | .arr _ _, _, .fld _ :: _, _, h => by simp [gets] at h
theorem getB_any {x : AV} {p : Path} (h : getB x p k = some r) : ∃ z, k z = some r ∧ ∀ (R' : Type) (k' : AV → Option R'), getB x p k' = k' z := by
  unfold getB at h ⊢
  split at h
  · exact ⟨_, h, fun R' k' => rfl⟩
  · split at h
    · obtain ⟨t', d', h1, h2⟩ := gets_any h
      exact ⟨_, h1, fun R' k' => h2 R' _⟩
    · split at h
      · exact ⟨_, h, fun R' k' => rfl⟩
      · obtain ⟨t', d', h1, h2⟩ := gets_any h
        exact ⟨_, h1, fun R' k' => h2 R' _⟩
      · cases h
    · cases h
  · split at h
    · obtain ⟨t', d', h1, h2⟩ := gets_any h
      exact ⟨_, h1, fun R' k' => h2 R' _⟩
    · cases h
theorem loK_any {len : Nat} {lo : Option AV} {k : Nat → Nat → Option Rr} (h : loK len lo k = some r) : ∃ a b, k a b = some r ∧ ∀ (R' : Type) (k' : Nat → Nat → Option R'), loK len lo k' = k' a b := by
  unfold loK at h ⊢
  split at h
  · exact ⟨_, _, h, fun R' k' => rfl⟩
  · split at h
    · rename_i hi
      split at h
      · rename_i hc
        exact ⟨_, _, h, fun R' k' => by simp only [if_pos hc]⟩
      · cases h
    · cases h
theorem boundsK_any {len : Nat} {lo hi mx : Option AV} {k : Nat → Nat → Option Rr} (h : boundsK len lo hi mx k = some r) : ∃ a b, k a b = some r ∧ ∀ (R' : Type) (k' : Nat → Nat → Option R'), boundsK len lo hi mx k' = k' a b := by
  unfold boundsK at h ⊢
  split at h
  · split at h
    · obtain ⟨a, b, h1, h2⟩ := loK_any h
      exact ⟨a, b, h1, fun R' k' => h2 R' k'⟩
    · split at h
      · rename_i hi
        split at h
        · rename_i hc
          obtain ⟨a, b, h1, h2⟩ := loK_any h
          exact ⟨a, b, h1, fun R' k' => by simp only [if_pos hc, h2]⟩
        · cases h
      · cases h
  · split at h
    · rename_i hm hh
      split at h
      · rename_i hi
        split at h
        · rename_i hc
          split at h
          · rename_i hc2
            obtain ⟨a, b, h1, h2⟩ := loK_any h
            exact ⟨a, b, h1, fun R' k' => by simp only [if_pos hc, if_pos hc2, h2]⟩
          · cases h
        · cases h
      · cases h
    · cases h
theorem indexI_any {C : Ctx} {T : Nat} {x : AV} {i : Int} (h : indexI C T x i k = some r) : ∃ z, k z = some r ∧ ∀ (R' : Type) (k' : AV → Option R'), indexI C T x i k' = k' z := by
  unfold indexI at h ⊢
  split at h
  · split at h <;> first
      | (split at h
         · rename_i h1
           split at h
           · rename_i h2
             exact ⟨_, h, fun R' k' => by simp only [if_pos h1, if_pos h2]⟩
           · cases h
         · cases h)
      | cases h
  · cases h
theorem fits_more {ob ob' : Store} (hM : ∀ n x, ob.get n = some x → ob'.get n = some x) : {x : AV} → {t : Ty} → x.fits ob t = true → x.fits ob' t = true := by
  intro x
  induction x with
  | cons h t ih1 ih2 =>
    intro T hf
    cases T with
    | pair a b =>
      simp only [AV.fits, Bool.and_eq_true] at hf ⊢
      exact ⟨ih1 hf.1, ih2 hf.2⟩
    | _ => simp [AV.fits] at hf
  | ag l ih =>
    intro T hf
    cases T with
    | pair a b => simp only [AV.fits] at hf ⊢; exact ih hf
    | _ => simp [AV.fits] at hf
  | sl n =>
    intro T hf
    cases T with
    | sl t0 =>
      simp only [AV.fits] at hf ⊢
      cases hg : ob.get n with
      | none => simp [hg] at hf
      | some o => rw [hg] at hf; rw [hM n o hg]; exact hf
    | _ => simp [AV.fits] at hf
  | sub n a b =>
    intro T hf
    cases T with
    | sl t0 =>
      simp only [AV.fits] at hf ⊢
      cases hg : ob.get n with
      | none => simp [hg] at hf
      | some o => rw [hg] at hf; rw [hM n o hg]; exact hf
    | _ => simp [AV.fits] at hf
  | bs n p =>
    intro T hf
    cases T with
    | sl t0 =>
      simp only [AV.fits] at hf ⊢
      cases hg : ob.get n with
      | none => simp [hg] at hf
      | some o => rw [hg] at hf; rw [hM n o hg]; exact hf
    | _ => simp [AV.fits] at hf
  | _ =>
    intro T hf
    cases T <;> first
      | exact hf
      | (rename_i k; cases k <;> exact hf)
end
end Go.Eng

/- The engine: drawn regions in whatever order. -/
namespace Go.Eng
section
variable {C : Ctx} {Rr : Type} {r : Rr} {k : AV → Option Rr} {m s : St}
def Big (ob ob' : Store) : Prop := ∀ n x, ob.get n = some x → ob'.get n = some x

theorem loadK_any (hM : Big m.ob s.ob) {T : Nat} {p : AV} (h : loadK C m T p k = some r) : ∃ z, k z = some r ∧ ∀ (R' : Type) (k' : AV → Option R'), loadK C s T p k' = k' z := by
  unfold loadK at h
  split at h
  · split at h
    · rename_i hc
      exact ⟨_, h, fun R' k' => by simp only [loadK, if_pos hc]⟩
    · cases h
  · split at h
    · rename_i hg
      obtain ⟨t', d', h1, h2⟩ := gets_any h
      split at h1
      · rename_i hc
        exact ⟨_, h1, fun R' k' => by simp only [loadK, hM _ _ hg, h2, if_pos hc]⟩
      · cases h1
    · cases h
  · split at h
    · rename_i hg hT
      obtain ⟨z, h1, h2⟩ := getB_any h
      split at h1
      · rename_i hc
        exact ⟨_, h1, fun R' k' => by simp only [loadK, hM _ _ hg, hT, h2, if_pos (fits_more hM hc)]⟩
      · cases h1
    · cases h
  · cases h
theorem fieldAddrK_any (hM : Big m.ob s.ob) {T : Nat} {x : AV} {i : Nat} (h : fieldAddrK C m T x i k = some r) : ∃ z, k z = some r ∧ ∀ (R' : Type) (k' : AV → Option R'), fieldAddrK C s T x i k' = k' z := by
  unfold fieldAddrK at h
  split at h
  · rename_i hT
    split at h
    · rename_i hf
      split at h
      · cases h
      · rename_i hz
        split at h
        · split at h
          · rename_i hg
            split at h
            · rename_i hc
              exact ⟨_, h, fun R' k' => by simp only [fieldAddrK, hT, hf, if_neg hz, hM _ _ hg, if_pos hc]⟩
            · cases h
          · cases h
        · split at h
          · rename_i hg
            split at h
            · rename_i hc
              exact ⟨_, h, fun R' k' => by simp only [fieldAddrK, hT, hf, if_neg hz, hM _ _ hg, if_pos hc]⟩
            · cases h
          · cases h
        · split at h
          · rename_i hc
            obtain ⟨t', d', h1, h2⟩ := gets_any h
            exact ⟨_, h1, fun R' k' => by simp only [fieldAddrK, hT, hf, if_neg hz, if_pos hc, h2]⟩
          · cases h
        · cases h
    · cases h
  · cases h
theorem fieldK_any {ob ob' : Store} (hM : Big ob ob') {T : Nat} {x : AV} {i : Nat} (h : fieldK C ob T x i k = some r) : ∃ z, k z = some r ∧ ∀ (R' : Type) (k' : AV → Option R'), fieldK C ob' T x i k' = k' z := by
  unfold fieldK at h
  split at h
  · rename_i hT
    split at h
    · rename_i hc
      obtain ⟨t', d', h1, h2⟩ := gets_any h
      exact ⟨_, h1, fun R' k' => by simp only [fieldK, hT, if_pos hc, h2]⟩
    · cases h
  · rename_i hT
    split at h
    · rename_i hf
      split at h
      · rename_i hc
        exact ⟨_, h, fun R' k' => by simp only [fieldK, hT, hf, if_pos (show _ ∧ _ from ⟨fits_more hM hc.1, fits_more hM hc.2⟩)]⟩
      · cases h
    · cases h
  · cases h
theorem indexAddrI_any (hM : Big m.ob s.ob) {T : Nat} {x : AV} {i : Int} (h : indexAddrI C m T x i k = some r) : ∃ z, k z = some r ∧ ∀ (R' : Type) (k' : AV → Option R'), indexAddrI C s T x i k' = k' z := by
  unfold indexAddrI at h
  split at h
  · rename_i hT
    split at h
    · split at h
      · split at h
        · rename_i h1
          split at h
          · rename_i h2
            exact ⟨_, h, fun R' k' => by simp only [indexAddrI, hT, if_pos h1, if_pos h2]⟩
          · cases h
        · cases h
      · cases h
    · split at h
      · rename_i hg
        split at h
        · rename_i h1
          split at h
          · rename_i h2
            exact ⟨_, h, fun R' k' => by simp only [indexAddrI, hT, hM _ _ hg, if_pos h1, if_pos h2]⟩
          · cases h
        · cases h
      · cases h
    · split at h
      · rename_i hg
        split at h
        · rename_i h1
          split at h
          · rename_i h2
            exact ⟨_, h, fun R' k' => by simp only [indexAddrI, hT, hM _ _ hg, if_pos h1, if_pos h2]⟩
          · cases h
        · cases h
      · cases h
    · cases h
  · rename_i hT
    split at h
    · cases h
    · rename_i hz
      split at h
      · split at h
        · rename_i hg
          split at h
          · rename_i h1
            split at h
            · rename_i h2
              exact ⟨_, h, fun R' k' => by simp only [indexAddrI, hT, if_neg hz, hM _ _ hg, if_pos h1, if_pos h2]⟩
            · cases h
          · cases h
        · cases h
      · split at h
        · rename_i hg
          split at h
          · rename_i h1
            split at h
            · rename_i h2
              exact ⟨_, h, fun R' k' => by simp only [indexAddrI, hT, if_neg hz, hM _ _ hg, if_pos h1, if_pos h2]⟩
            · cases h
          · cases h
        · cases h
      · split at h
        · split at h
          · rename_i h1
            split at h
            · rename_i h2
              exact ⟨_, h, fun R' k' => by simp only [indexAddrI, hT, if_neg hz, if_pos h1, if_pos h2]⟩
            · cases h
          · cases h
        · cases h
      · cases h
  · cases h
theorem indexAddrK_any (hM : Big m.ob s.ob) {T : Nat} {x ix : AV} (h : indexAddrK C m T x ix k = some r) : ∃ z, k z = some r ∧ ∀ (R' : Type) (k' : AV → Option R'), indexAddrK C s T x ix k' = k' z := by
  unfold indexAddrK at h
  split at h
  · obtain ⟨z, h1, h2⟩ := indexAddrI_any hM h
    exact ⟨z, h1, fun R' k' => h2 R' k'⟩
  · cases h
theorem indexK_any {T : Nat} {x ix : AV} (h : indexK C T x ix k = some r) : ∃ z, k z = some r ∧ ∀ (R' : Type) (k' : AV → Option R'), indexK C T x ix k' = k' z := by
  unfold indexK at h
  split at h
  · obtain ⟨z, h1, h2⟩ := indexI_any h
    exact ⟨z, h1, fun R' k' => h2 R' k'⟩
  · cases h
theorem lenK_any (hM : Big m.ob s.ob) {T : Nat} {x : AV} (h : lenK C m T x k = some r) : ∃ z, k z = some r ∧ ∀ (R' : Type) (k' : AV → Option R'), lenK C s T x k' = k' z := by
  unfold lenK at h
  split at h
  · rename_i hT
    split at h
    · split at h
      · exact ⟨_, h, fun R' k' => by simp only [lenK, hT]⟩
      · cases h
    · split at h
      · rename_i hg
        exact ⟨_, h, fun R' k' => by simp only [lenK, hT, hM _ _ hg]⟩
      · cases h
    · exact ⟨_, h, fun R' k' => by simp only [lenK, hT]⟩
    · split at h
      · rename_i hg
        split at h
        · rename_i hp
          split at h
          · rename_i hc
            exact ⟨_, h, fun R' k' => by simp only [lenK, hT, hM _ _ hg, hp, if_pos hc]⟩
          · cases h
        · cases h
      · cases h
    · exact ⟨_, h, fun R' k' => by simp only [lenK, hT]⟩
    · cases h
  · rename_i hT
    split at h
    · rename_i hc
      exact ⟨_, h, fun R' k' => by simp only [lenK, hT, if_pos hc]⟩
    · cases h
  · rename_i hT
    split at h
    · split at h
      · rename_i hc
        exact ⟨_, h, fun R' k' => by simp only [lenK, hT, if_pos hc]⟩
      · cases h
    · cases h
  · cases h
theorem sliceK_any (hM : Big m.ob s.ob) {T : Nat} {x : AV} {lo hi mx : Option AV} (h : sliceK C m T x lo hi mx k = some r) : ∃ z, k z = some r ∧ ∀ (R' : Type) (k' : AV → Option R'), sliceK C s T x lo hi mx k' = k' z := by
  unfold sliceK at h
  split at h
  · rename_i hT
    split at h
    · split at h
      · split at h
        · rename_i hc
          obtain ⟨a, b, h1, h2⟩ := boundsK_any h
          exact ⟨_, h1, fun R' k' => by simp only [sliceK, hT, if_pos hc, h2]⟩
        · cases h
      · cases h
    · split at h
      · rename_i hg
        split at h
        · rename_i hc
          obtain ⟨a, b, h1, h2⟩ := boundsK_any h
          exact ⟨_, h1, fun R' k' => by simp only [sliceK, hT, hM _ _ hg, if_pos hc, h2]⟩
        · cases h
      · cases h
    · split at h
      · rename_i hg
        split at h
        · rename_i hc
          obtain ⟨a, b, h1, h2⟩ := boundsK_any h
          exact ⟨_, h1, fun R' k' => by simp only [sliceK, hT, hM _ _ hg, if_pos hc, h2]⟩
        · cases h
      · cases h
    · cases h
  · rename_i hT
    split at h
    · split at h
      · rename_i hg
        split at h
        · rename_i hc
          exact ⟨_, h, fun R' k' => by simp only [sliceK, hT, hM _ _ hg, if_pos hc]⟩
        · cases h
      · cases h
    · split at h
      · split at h
        · rename_i hc
          split at h
          · rename_i hc2
            obtain ⟨a, b, h1, h2⟩ := boundsK_any h
            exact ⟨_, h1, fun R' k' => by simp only [sliceK, hT, if_pos hc, if_pos hc2, h2]⟩
          · cases h
        · cases h
      · cases h
    · cases h
  · rename_i hT
    split at h
    · split at h
      · obtain ⟨a, b, h1, h2⟩ := boundsK_any h
        exact ⟨_, h1, fun R' k' => by simp only [sliceK, hT, h2]⟩
      · cases h
    · cases h
  · cases h
theorem fillK_any {ob ob' : Store} (hM : Big ob ob') {T : Ty} : ∀ {parts : List (Nat × AV)} {l : AV} {k : AV → Option Rr}, fillK ob T l parts k = some r → ∃ z, k z = some r ∧ ∀ (R' : Type) (k' : AV → Option R'), fillK ob' T l parts k' = k' z
  | [], l, k, h => ⟨l, h, fun _ _ => rfl⟩
  | (i, a) :: p, l, k, h => by
    rw [fillK] at h
    split at h
    · rename_i tf hf
      split at h
      · rename_i hc
        obtain ⟨z, h1, h2⟩ := fillK_any hM h
        exact ⟨z, h1, fun R' k' => by simp only [fillK, hf, if_pos (fits_more hM hc), h2]⟩
      · cases h
    · cases h
theorem buildK_any {ob ob' : Store} (hM : Big ob ob') {t : Ty} {parts : List (Nat × AV)} {k : AV → Option Rr} (h : buildK ob t parts k = some r) : ∃ z, k z = some r ∧ ∀ (R' : Type) (k' : AV → Option R'), buildK ob' t parts k' = k' z := by
  unfold buildK at h
  split at h
  · split at h
    · rename_i hs
      obtain ⟨l, h1, h2⟩ := fillK_any hM h
      split at h1
      · rename_i ha
        obtain ⟨g, t, d, h3, h4⟩ := plainV_any h1
        exact ⟨_, h3, fun R' k' => by simp only [buildK, if_pos hs, h2, if_pos ha, h4]⟩
      · rename_i ha
        exact ⟨_, h1, fun R' k' => by simp only [buildK, if_pos hs, h2, if_neg ha]⟩
    · cases h
  · split at h
    · rename_i hp
      obtain ⟨g, l, h1, h2⟩ := listK_any h
      exact ⟨_, h1, fun R' k' => by simp only [buildK, if_pos hp, h2]⟩
    · cases h
  · cases h
end
end Go.Eng

/- The engine: drawn regions in whatever order. -/
namespace Go.Eng
section
variable {P : Program} {C : Ctx} {Rr : Type} {r : Rr} {m s : St}
theorem plain_any {ob ob' : Store} (hM : Big ob ob') : {x : AV} → {k : Bool → (t : Ty) → t.D → Option Rr} → plain ob x k = some r → ∃ g t d, k g t d = some r ∧ ∀ (R' : Type) (k' : Bool → (t : Ty) → t.D → Option R'), plain ob' x k' = k' g t d
  | .v g t d, k, h => ⟨g, t, d, h, fun _ _ => rfl⟩
  | .sl n, k, h => by
    rw [plain] at h
    split at h
    · rename_i hg
      exact ⟨_, _, _, h, fun R' k' => by simp only [plain, hM _ _ hg]⟩
    · cases h
  | .sub n o l, k, h => by
    rw [plain] at h
    split at h
    · rename_i hg
      exact ⟨_, _, _, h, fun R' k' => by simp only [plain, hM _ _ hg]⟩
    · cases h
  | .bs n p, k, h => by
    rw [plain] at h
    split at h
    · rename_i hg
      obtain ⟨t', d', h1, h2⟩ := gets_any h
      split at h1
      · split at h1
        · rename_i hc
          exact ⟨_, _, _, h1, fun R' k' => by simp only [plain, hM _ _ hg, h2, if_pos hc]⟩
        · cases h1
      · cases h1
    · cases h
  | .ag l, k, h => by
    rw [plain] at h
    obtain ⟨g, t, d, h1, h2⟩ := plain_any hM (x := l) h
    exact ⟨g, t, d, h1, fun R' k' => by rw [plain, h2]⟩
  | .nil, k, h => ⟨true, .unit, (), h, fun _ _ => rfl⟩
  | .cons x y, k, h => by
    rw [plain] at h
    obtain ⟨g1, t1, d1, h1, h2⟩ := plain_any hM (x := x) h
    obtain ⟨g2, t2, d2, h3, h4⟩ := plain_any hM (x := y) h1
    exact ⟨_, _, _, h3, fun R' k' => by rw [plain, h2, h4]⟩
  | .pe .., _, h | .pb .., _, h | .pr .., _, h | .nl _, _, h | .nils, _, h | .clo .., _, h | .tup _, _, h | .dead, _, h => by simp [plain] at h
theorem argsK_any {ob ob' : Store} (hM : Big ob ob') {T : List Nat} : ∀ {args : List (Bool × AV)} {k : List AV → Option Rr}, argsK ob T args k = some r →
    ∃ xs, k xs = some r ∧ ∀ (R' : Type) (k' : List AV → Option R'), argsK ob' T args k' = k' xs
  | [], k, h => ⟨[], h, fun _ _ => rfl⟩
  | (b, x) :: l, k, h => by
    rw [argsK] at h
    split at h
    · rename_i hl
      split at h
      · cases h
      · rename_i hn
        obtain ⟨g, t, d, h1, h2⟩ := plain_any hM h
        obtain ⟨xs, h3, h4⟩ := argsK_any hM h1
        exact ⟨_, h3, fun R' k' => by rw [argsK, if_pos hl, if_neg hn, h2, h4]⟩
    · rename_i hl
      split at h
      · rename_i hn
        obtain ⟨xs, h3, h4⟩ := argsK_any hM h
        exact ⟨_, h3, fun R' k' => by rw [argsK, if_neg hl, if_pos hn, h4]⟩
      · cases h
theorem reach_ne (ob : Store) : ∀ (f : Nat) (l acc : List Nat), acc ≠ [] → reach ob f l acc ≠ []
  | 0, _, _, h => by rw [reach]; exact h
  | f + 1, [], acc, h => by rw [reach]; exact h; exact fun e => by cases e
  | f + 1, n :: l, acc, h => by
    rw [reach]
    split
    · exact reach_ne ob f l acc h
    · exact reach_ne ob f _ _ (by simp)
theorem reach_nil (ob ob' : Store) {l : List Nat} (h : (reach ob 64 l []).isEmpty = true) : (reach ob' 64 l []).isEmpty = true ∧ reach ob' 64 l [] = [] := by
  cases l with
  | nil => exact ⟨rfl, rfl⟩
  | cons n l =>
    exfalso
    rw [reach, if_neg (by simp)] at h
    exact reach_ne ob 63 _ ([] ++ [n]) (by simp) (by simpa using h)

def valueCall : Op → Bool
  | .call c => match c.callee with
    | .value _ => true
    | _ => false
  | _ => false
theorem opQ_at (hM : More m s) {o : Oper} {k : AV → Option Rr} (hv : valueCall o.op = false) (h : opQ C m o k = some r) : ∃ z, k z = some r ∧ ∀ (R' : Type) (k' : AV → Option R'), opQ C s o k' = k' z := by
  have hB : Big m.ob s.ob := hM.2
  have hev : ∀ x, s.ev x = m.ev x := fun x => by cases x <;> simp [St.ev, hM.1]
  have hevf : s.ev = m.ev := funext hev
  obtain ⟨dst, op, type, pos, after, guard⟩ := o
  cases op with
  | move x | assign x =>
    simp only [opQ, hev] at h ⊢
    split at h
    · cases h
    · rename_i hn; exact ⟨_, h, fun R' k' => by rw [if_neg hn]⟩
  | pick c x y =>
    simp only [opQ, hev] at h ⊢
    obtain ⟨z, h1, h2⟩ := pickK_any h
    exact ⟨z, h1, fun R' k' => h2 R' k'⟩
  | load T p =>
    simp only [opQ, hev] at h ⊢
    exact loadK_any hB h
  | nilCheck x =>
    simp only [opQ, opK, hev] at h ⊢
    split at h
    · exact ⟨_, h, fun R' k' => rfl⟩
    · exact ⟨_, h, fun R' k' => rfl⟩
    · exact ⟨_, h, fun R' k' => rfl⟩
    · exact ⟨_, h, fun R' k' => rfl⟩
    · cases h
  | binOp op T x y yt =>
    simp only [opQ, hev] at h ⊢
    exact binK_any h
  | unOp op T x =>
    simp only [opQ, hev] at h ⊢
    exact unK_any h
  | convert a t x =>
    simp only [opQ, hev] at h ⊢
    split at h
    · exact ⟨_, h, fun R' k' => rfl⟩
    · cases h
  | slice T x lo hi mx =>
    simp only [opQ, hevf] at h ⊢
    exact sliceK_any hB h
  | fieldAddr T x i =>
    simp only [opQ, hev] at h ⊢
    exact fieldAddrK_any hB h
  | field T x i =>
    simp only [opQ, hev] at h ⊢
    exact fieldK_any hB h
  | indexAddr T x i =>
    simp only [opQ, hev] at h ⊢
    exact indexAddrK_any hB h
  | index T x i =>
    simp only [opQ, hev] at h ⊢
    exact indexK_any h
  | build T parts =>
    simp only [opQ, hev] at h ⊢
    split at h
    · rename_i t hT
      obtain ⟨z, h1, h2⟩ := buildK_any hB h
      exact ⟨z, h1, fun R' k' => h2 R' k'⟩
    · cases h
  | extract t i =>
    simp only [opQ, hev] at h ⊢
    split at h
    · split at h
      · rename_i hh
        exact ⟨_, h, fun R' k' => by simp only [if_pos hh]⟩
      · cases h
    · cases h
  | call c =>
    obtain ⟨callee, args, argTypes⟩ := c
    cases callee with
    | builtin b =>
      cases b with
      | len =>
        simp only [opQ, hev] at h ⊢
        split at h
        · rename_i T x hTs hxs
          obtain ⟨z, h1, h2⟩ := lenK_any hB h
          exact ⟨z, h1, fun R' k' => h2 R' k'⟩
        · cases h
      | _ => simp [opQ] at h
    | value f => simp [valueCall] at hv
    | invoke => simp [opQ] at h
  | _ => simp [opQ] at h
theorem More.refl (m : St) : More m m := ⟨rfl, fun _ _ h => h⟩
theorem opQ_pin {o : Oper} {k : AV → Option Rr} (hv : valueCall o.op = false) (h : opQ C m o k = some r) : ∃ z, k z = some r ∧ ∀ s, More m s → ∀ (R' : Type) (k' : AV → Option R'), opQ C s o k' = k' z := by
  obtain ⟨z, h1, h2⟩ := opQ_at (More.refl m) hv h
  refine ⟨z, h1, fun s hM R' k' => ?_⟩
  obtain ⟨z', h3, h4⟩ := opQ_at (k := some) hM hv (h2 AV some)
  cases h3
  exact h4 R' k'
theorem callQ_more (hC : CtxOK P C) {f : Nat} {args : List AV} {k : AV → Option Rr} (h : callQ C m f args k = some r) :
    ∃ z, k z = some r ∧ (∃ fn, P.funcs[f]? = some fn ∧ (fn.name == "runtime.NumGoroutine") = false ∧ fn.body.isNone = false) ∧
      ∀ s, Big m.ob s.ob → ∀ {E : Env} {μ : Mu} {a : Act} {w : World} {vs : Array Value}, StR E s μ a w → ArgsR E s.ob μ w args vs.toList →
        ∃ v, Calls P f vs w (fun e w' => e = .returned v ∧ Ext w w') ∧ VR E s.ob μ w z v ∧ z.rigid = true := by
  unfold callQ at h
  split at h
  · cases h
  · rename_i G hG
    obtain ⟨hsound, hfn⟩ := hC.ct f G hG
    split at h
    · obtain ⟨xs, h1, hxs⟩ := argsK_any (ob' := m.ob) (fun _ _ h => h) h
      obtain ⟨x, ob', h3, h4⟩ := hsound _ _ _ _ _ h1
      split at h3
      · rename_i hc
        simp only [Bool.and_eq_true, List.isEmpty_iff] at hc
        obtain ⟨rfl, hrig⟩ := hc
        refine ⟨_, h3, hfn, fun s hB {E μ a w vs} hS ha => ?_⟩
        have hL : Closed s.ob [] := ⟨List.nodup_nil, fun n hn => by simp at hn, fun n hn => by simp at hn⟩
        obtain ⟨xs', e1, hxs'⟩ := argsK_any (k := some) hB (hxs _ some)
        cases e1
        obtain ⟨xs'', e2, h2⟩ := argsK_sound hL (hxs' _ some)
        cases e2
        rw [← withM_snd (C.LD f) args] at ha
        have hR1 := hS.rel.call hL (by simp) (fun n hn => by simp at hn) (A := lentA E s.ob μ true) fun b hb => .inr hb
        have hcall := h4 w _ _ vs hR1 (h2 hS.rel (fun _ => rfl) ha)
        cases x with
        | v g t d =>
          simp only [AV.rigid] at hrig
          refine ⟨simpleVal t d, Calls.mono hcall ?_, ?_, hrig⟩
          · rintro e w' ⟨v, μ', rfl, hR', hx⟩
            refine ⟨by rw [hx.simple hrig], hR'.size, hR'.io, fun b hb => hR'.frame b hb ?_⟩
            rintro ⟨n, o, y, hn, _⟩
            simp [Store.get] at hn
          · obtain ⟨e, w', _, ⟨v, μ', _, _, hx⟩, _⟩ := hcall []
            obtain ⟨h5, h6⟩ := VR.v_iff.1 hx
            rw [← hx.simple hrig]
            exact VR.v_iff.2 ⟨simple_R hrig h5, h6⟩
        | _ => simp [AV.rigid] at hrig
      · cases h3
    · cases h
end
end Go.Eng

/- The engine: drawn regions in whatever order. -/
namespace Go.Eng
section
variable {P : Program} {C : Ctx} {Rr : Type} {r : Rr} {m s : St}
theorem QuietS.normed {E : Env} {o : Oper} {z : AV} (h : QuietS P E s o z) : QuietS P E s o z.norm := fun μ a w hS =>
  let ⟨v, h1, h2⟩ := h μ a w hS; ⟨v, h1, norm_VR h2⟩
theorem opQ_more (hC : CtxOK P C) {o : Oper} {k : AV → Option Rr} (h : opQ C m o k = some r) : ∃ z, k z = some r ∧ ∀ s, More m s → ∀ E, QuietS P E s o z := by
  cases hv : valueCall o.op with
  | false =>
    obtain ⟨z, h1, h2⟩ := opQ_pin hv h
    refine ⟨z, h1, fun s hM E => ?_⟩
    obtain ⟨z', h3, h4⟩ := opQ_sound hC (k := some) (h2 s hM AV some)
    cases h3
    exact h4
  | true =>
    obtain ⟨dst, op, type, pos, after, guard⟩ := o
    cases op with
    | call c =>
      obtain ⟨callee, args, argTypes⟩ := c
      cases callee with
      | value f =>
        simp only [opQ] at h
        split at h
        · rename_i g hf
          obtain ⟨z, h1, ⟨fn, hfn, hname, hbody⟩, h2⟩ := callQ_more hC h
          refine ⟨_, h1, fun s hM E μ a w hS => ?_⟩
          have hevf : s.ev = m.ev := funext fun x => by cases x <;> simp [St.ev, hM.1]
          have mk : ∀ w', Ext w w' → ∃ v, Calls P g (args.map a.eval) w' (fun e w'' => e = .returned v ∧ Ext w' w'') ∧ VR E s.ob μ w' z v ∧ z.rigid = true := fun w' hw => by
            have hS' := hS.ext hw
            have := evs hS' args.toList
            rw [hevf] at this
            exact h2 s hM.2 hS' (by simpa using this)
          obtain ⟨v, _, hv, hrig⟩ := mk w (Ext.refl w)
          refine ⟨v, fun w' hw => ?_, hv⟩
          obtain ⟨v', hc, hv', _⟩ := mk w' hw
          have he : v' = v := by
            cases z with
            | v g t d => simp only [AV.rigid] at hrig; rw [hv.simple hrig, hv'.simple hrig]
            | _ => simp [AV.rigid] at hrig
          subst he
          have hv0 := (hS.ext hw).ev f
          rw [hevf, hf] at hv0
          obtain ⟨hfe, _⟩ := hv0.clo
          have hrun : (execOp a.eval ⟨dst, .call ⟨.value f, args, argTypes⟩, type, pos, after, guard⟩).run P w' = .ok (.enter g (args.map a.eval)) w' := by
            have hn1 : ¬ fn.name = "runtime.NumGoroutine" := by simpa using hname
            have hb1 : ¬ fn.body = none := fun e => by rw [e] at hbody; cases hbody
            simp [execOp, resolve, hfe, Deferred.ofValue, invoke, callFunc, hfn, hn1, hb1]
          unfold Oper.quietAt
          rw [hrun]
          exact ⟨rfl, Calls.mono hc fun e w'' h => ⟨h.1, hw.trans h.2⟩⟩
        · cases h
      | _ => simp [valueCall] at hv
    | _ => simp [valueCall] at hv

/-- what a step gives -/
def StepF (P : Program) (ops : Array Oper) (st : St) (pre : List Out) (i : Nat) (o : Oper) (x : Out) : Prop :=
  okI ops (mAt ops pre st i o) i o = true ∧
    (x.2 = none ∧ (∀ s, More (mAt ops pre st i o) s → ∀ E, QuietS P E s o x.1) ∨
     ∃ ob, allocB o.op = true ∧ x.2 = some (nm (o.dst.getD 0) 0, ob) ∧
       ∀ s : St, (∀ y ∈ o.op.operands, s.ev y = (mAt ops pre st i o).ev y) → ∀ E, OpS P E s o x.1 (s.new (nm (o.dst.getD 0) 0) ob))
theorem CtxOK.noOwn (h : CtxOK P C) : CtxOK P C.noOwn := ⟨⟨h.tt, h.eb, h.depth, h.mixed⟩, h.ct⟩
theorem stepD_sound (hC : CtxOK P C) {ops : Array Oper} {st : St} {i : Nat} {o : Oper} {outs : List Out} {k : Out → Option Rr} (h : stepD C ops st i o outs k = some r) :
    ∃ x, k x = some r ∧ StepF P ops st outs i o x := by
  unfold stepD at h
  simp only at h
  split at h
  · rename_i hok
    split at h
    · rename_i ha
      split at h
      · rename_i hp
        obtain ⟨z, ob, h1, hall⟩ := alloc_any (C := C.noOwn) (fun _ => rfl) (s := mAt ops outs st i o) ha hp h (fun _ _ => rfl)
        simp only [St.new_get] at h1
        refine ⟨_, h1, hok, .inr ⟨ob, ha, rfl, fun s he E => ?_⟩⟩
        have hk := hall (AV × Option Obj) fun z st' => some (z, st'.ob.get (nm (o.dst.getD 0) 0))
        rw [St.new_get] at hk
        obtain ⟨z', ob', h1', h2'⟩ := alloc_any (C := C.noOwn) (fun _ => rfl) (s := s) ha hp hk he
        simp only [St.new_get, Option.some.injEq, Prod.mk.injEq] at h1'
        obtain ⟨rfl, rfl⟩ := h1'
        obtain ⟨z'', st'', h3, h4⟩ := opK_sound hC.noOwn (h2' (AV × St) fun z st' => some (z, st'))
        cases h3
        exact h4
      · cases h
    · obtain ⟨z, h1, h2⟩ := opQ_more hC h
      exact ⟨_, h1, hok, .inl ⟨rfl, fun s hM E => (h2 s hM E).normed⟩⟩
  · cases h
theorem ancs_lt {ops : Array Oper} {st : St} (hG : okG ops st = true) {i : Nat} : ∀ j ∈ ancs ops ops.size (deps ops i), j < i := by
  by_cases hi : i < ops.size
  · have := ancs_in (ops := ops) (L := List.range i) (fun j hj k hk => by
      rw [List.mem_range] at hj ⊢
      have := okG_lt hG (deps_size hk) hk
      omega) ops.size (deps ops i) (fun j hj => List.mem_range.2 (okG_lt hG hi hj))
    exact fun j hj => List.mem_range.1 (this j hj)
  · intro j hj
    have h0 : deps ops i = [] := by
      cases hd : deps ops i with
      | nil => rfl
      | cons x l => exact absurd (deps_size (i := i) (j := x) (by rw [hd]; simp)) hi
    rw [h0] at hj
    have := ancs_in (ops := ops) (L := []) (fun _ h => by simp at h) ops.size [] (fun _ h => by simp at h) j hj
    simp at this
theorem outAt_app {outs t : List Out} {j : Nat} (h : j < outs.length) : outAt outs j = outAt (outs ++ t) j := by
  unfold outAt
  simp only [List.getD]
  rw [List.getElem?_append_left h]
theorem mAt_app {ops : Array Oper} {st : St} (hG : okG ops st = true) {outs t : List Out} {i : Nat} {o : Oper} (h : i ≤ outs.length) : mAt ops outs st i o = mAt ops (outs ++ t) st i o := by
  unfold mAt
  rw [sig_congr (outs' := outs ++ t) _ fun j hj => outAt_app (by have := ancs_lt hG j hj; omega)]
theorem has_app {ops : Array Oper} {st s : St} (hG : okG ops st = true) {outs t : List Out} {i : Nat} (h : i ≤ outs.length) (hh : Has ops (outs ++ t) i s) : Has ops outs i s := fun j hj d hd => by
  rw [hh j hj d hd, ← outAt_app (by have := okG_lt hG (deps_size hj) hj; omega)]
theorem runD_sound (hC : CtxOK P C) {ops : Array Oper} {st : St} (hG : okG ops st = true) : ∀ {l : List Oper} {outs : List Out} {k : List Out → Option Rr}, l = ops.toList.drop outs.length → runD C ops st l outs k = some r →
    ∃ t, k (outs ++ t) = some r ∧ t.length = l.length ∧ ∀ i o, outs.length ≤ i → ops[i]? = some o → FactX P ops st (outs ++ t) i o (outAt (outs ++ t) i)
  | [], outs, k, hl, h => by
    rw [runD] at h
    refine ⟨[], by simpa using h, rfl, fun i o hi ho => ?_⟩
    have h1 := (Array.getElem?_eq_some_iff.1 ho).1
    have h2 : ops.toList.length ≤ outs.length := by
      have := congrArg List.length hl
      simp at this
      simp; omega
    simp at h2
    omega
  | o :: l, outs, k, hl, h => by
    have hlt : outs.length < ops.toList.length := by
      have := congrArg List.length hl
      simp at this
      simp; omega
    rw [List.drop_eq_getElem_cons hlt] at hl
    have ho : ops[outs.length]? = some o := by
      have := (List.cons.inj hl).1
      rw [this]
      simp at hlt
      simp [hlt]
    have hl' : l = ops.toList.drop (outs.length + 1) := (List.cons.inj hl).2
    rw [runD] at h
    obtain ⟨b, h1, hg⟩ := guardD_sound h
    have fin : ∀ (x : Out), (∀ t, FactX P ops st (outs ++ [x] ++ t) outs.length o x) → runD C ops st l (outs ++ [x]) k = some r →
        ∃ t, k (outs ++ t) = some r ∧ t.length = (o :: l).length ∧ ∀ i o, outs.length ≤ i → ops[i]? = some o → FactX P ops st (outs ++ t) i o (outAt (outs ++ t) i) := fun x hx hr => by
      obtain ⟨t, h2, h3, h4⟩ := runD_sound hC hG (outs := outs ++ [x]) (by rw [List.length_append]; exact hl') hr
      refine ⟨x :: t, by simpa using h2, by simp [h3], fun i o' hi ho' => ?_⟩
      have e : outs ++ x :: t = outs ++ [x] ++ t := by simp
      rw [e]
      by_cases hi' : i = outs.length
      · subst hi'
        rw [ho] at ho'
        cases ho'
        have : outAt (outs ++ [x] ++ t) outs.length = x := by unfold outAt; simp [List.getD]
        rw [this]
        exact hx t
      · exact h4 i o' (by simp; omega) ho'
    have hgt : ∀ x t, GuardF ops (outs ++ [x] ++ t) outs.length o b := fun x t E s μ a w hS hh => hg hS (has_app hG (t := [x] ++ t) (Nat.le_refl _) (by rw [← List.append_assoc]; exact hh))
    cases b with
    | true =>
      simp only [if_true] at h1
      obtain ⟨x, h2, h3, h4⟩ := stepD_sound hC h1
      refine fin x (fun t => .inl ⟨hgt x t, ?_⟩) h2
      rw [List.append_assoc, ← mAt_app hG (Nat.le_refl _)]
      exact ⟨h3, h4⟩
    | false =>
      simp only [Bool.false_eq_true, if_false] at h1
      exact fin (.tup .nil, none) (fun t => .inr ⟨hgt _ t, rfl⟩) h1

/-- a drawn region -/
theorem regionD (hC : CtxOK P C) {ops : Array Oper} {st : St} (hG : okG ops st = true) {k : List Out → Option Rr} (h : runD C ops st ops.toList [] k = some r) :
    ∃ outs, k outs = some r ∧ ∀ {E : Env} {μ : Mu} {a : Act} {w : World}, StR E st μ a w → ∀ (id : Nat) (Q : Exit → Act → World → Prop),
      (∀ μ' a' w', StR E (sig ops outs st (List.range ops.size).reverse) μ' a' w' → Q .normal a' w') → (Code.region id ops true).wp P Q a w := by
  obtain ⟨t, h1, h2, h3⟩ := runD_sound hC hG (outs := []) rfl h
  rw [List.nil_append] at h1 h3
  refine ⟨t, h1, fun {E μ a w} hS id Q hQ => wp_region_any hC.mixed ?_⟩
  have hx : Ext w { w with drawn := w.drawn + 1 } := ⟨Nat.le_refl _, ⟨rfl, rfl, rfl⟩, fun _ _ => rfl⟩
  have hS' : StR E st μ a { w with drawn := w.drawn + 1 } := hS.ext hx
  exact anyD hG (by simpa using h2) (fun i o ho => h3 i o (Nat.zero_le _) ho) (fun μ a w hS => hQ μ a w hS) ops.size _ (List.range ops.size) [] μ a _
    (fun i hi => by simp [Array.getD, hi]) (by simp) List.nodup_range (by simp) (fun i hi => List.mem_range.1 hi) (fun i => by simp) (fun i hi => by simp at hi) hS'
theorem any_of_seq {ops : Array Oper} {Q : Exit → Act → World → Prop} : ∀ (g k : Nat) (listed : Array Bool) (a : Act) (w : World), Region.seqB .any ops g k listed = true → wpOps P ops Q (List.range' k g) a w → wpAny P .any ops Q g listed a w
  | 0, k, listed, a, w, hB, h => ⟨by simpa [Region.seqB] using hB, h⟩
  | g + 1, k, listed, a, w, hB, h => by
    simp only [Region.seqB, Bool.and_eq_true, decide_eq_true_eq] at hB
    rw [List.range'_succ, wpOps_cons] at h
    refine ⟨fun h1 => (by rw [hB.1] at h1; cases h1), fun i hi => ?_⟩
    rw [hB.1] at hi
    have hik : i = k := by simpa using hi
    subst hik
    exact wpOp_mono (fun a' w' h' => any_of_seq g (i + 1) _ a' w' hB.2 h') h
/-- a drawn region: the first n0 operations in whatever order, the others one after the other -/
theorem regionT (hC : CtxOK P C) {n n0 : Nat} {ops : Array Oper} {st : St} (hG : okG (ops.extract 0 n0) st = true) (hT : tailOk ops n0 = true) {k : St → Option Rr}
    (h : runD C (ops.extract 0 n0) st (ops.extract 0 n0).toList [] (fun outs => runOps C n ops (List.range' n0 (ops.size - n0)) (sig (ops.extract 0 n0) outs st (List.range n0).reverse) k) = some r) :
    ∃ st', k st' = some r ∧ ∀ {E : Env} {μ : Mu} {a : Act} {w : World}, StR E st μ a w → ∀ (id : Nat) (Q : Exit → Act → World → Prop),
      (∀ μ' a' w', StR E st' μ' a' w' → Q .normal a' w') → (Code.region id ops true).wp P Q a w := by
  obtain ⟨t, h1, h2, h3⟩ := runD_sound hC hG (outs := []) rfl h
  rw [List.nil_append] at h1 h3
  obtain ⟨st', h4, h5⟩ := runOps_sound hC h1
  unfold tailOk at hT
  simp only [Bool.and_eq_true, decide_eq_true_eq] at hT
  obtain ⟨⟨hle, hanc⟩, hseq, hgd⟩ := hT
  have hsz : (ops.extract 0 n0).size = n0 := by simp; omega
  have hget : ∀ i, i < n0 → (ops.extract 0 n0)[i]? = ops[i]? := fun i hi => by
    rw [Array.getElem?_extract, if_pos (by omega), Nat.zero_add]
  refine ⟨st', h4, fun {E μ a w} hS id Q hQ => wp_region_any hC.mixed ?_⟩
  have hx : Ext w { w with drawn := w.drawn + 1 } := ⟨Nat.le_refl _, ⟨rfl, rfl, rfl⟩, fun _ _ => rfl⟩
  have hS' : StR E st μ a { w with drawn := w.drawn + 1 } := hS.ext hx
  have := anyT (Q := Q) hle hsz hget (fun o ho j b hb => by
      have := List.all_eq_true.1 hgd o ho
      rw [hb] at this
      simpa using this) (fun t ht hts j hj => by
      have := List.all_eq_true.1 hanc t (List.mem_range.2 hts)
      simp only [Bool.or_eq_true, decide_eq_true_eq] at this
      rcases this with h | h
      · omega
      · simpa using List.all_eq_true.1 h j (List.mem_range.2 hj)) hG (by simpa using h2) (fun i o ho => h3 i o (Nat.zero_le _) ho)
    (fun μ a w hS => any_of_seq _ _ _ a w hseq (h5 hS Q hQ)) n0 (Array.replicate ops.size false) (List.range n0) [] μ a _
    (fun i hi => by simp [Array.getD, hi]) (by simp) List.nodup_range (by simp) (fun i hi => List.mem_range.1 hi) (fun i => by simp) (fun i hi => by simp at hi) hS'
  rwa [show n0 + (ops.size - n0) = ops.size by omega] at this
end
end Go.Eng

/- The engine: code. -/
namespace Go.Eng
section
variable {P : Program} {C : Ctx} {Rr : Type} {r : Rr} {E E' : Env} {ob ob' : Store} {μ μ' : Mu} {w w' : World}
theorem exec_sound (hC : CtxOK P C) {n : Nat} {M : Masks} {LP : Loops} (c : Code) (hL : LOK P LP c) : ∀ {st : St} {k : Ex → St → Option Rr}, exec C n M LP c st k = some r →
    ∃ e st', k e st' = some r ∧ Goes P c st e st' := by
  induction c with
  | skip => intro st k h; rw [exec] at h; exact ⟨_, st, h, fun hS Q hQ => wp_skip (hQ _ _ _ hS)⟩
  | exit id => intro st k h; rw [exec] at h; exact ⟨_, _, h, fun hS Q hQ => wp_exit (hQ _ _ _ (hS.scrubAt M _))⟩
  | ret => intro st k h; rw [exec] at h; exact ⟨_, _, h, fun hS Q hQ => wp_ret (hQ _ _ _ (hS.scrubAt M _))⟩
  | region id ops draw =>
    intro st k h
    rw [exec] at h
    split at h
    · rename_i hd
      subst hd
      split at h
      · rename_i hB
        have hB : Region.lexB .any ops = true := by
          simp only [Bool.and_eq_true] at hB; exact hB.1
        obtain ⟨st', h1, h2⟩ := runQ_sound hC h
        refine ⟨.normal, st'.fade, h1, fun {E μ a w} hS Q hQ => wp_region_quiet (C := Ext w) hC.mixed hB ⟨Nat.le_refl _, ⟨rfl, rfl, rfl⟩, fun _ _ => rfl⟩ ?_⟩
        exact h2 hS _ fun a' hS' w' hw => hQ _ _ _ (hS'.ext hw).fade
      · split at h
        · rename_i hG
          simp only [Bool.and_eq_true] at hG
          obtain ⟨st', h1, h2⟩ := regionT hC hG.1 hG.2 h
          exact ⟨.normal, st'.fade, h1, fun {E μ a w} hS Q hQ => h2 hS _ Q fun μ' a' w' hS' => hQ _ _ _ hS'.fade⟩
        · cases h
    · rename_i hd
      obtain rfl : draw = false := by simpa using hd
      obtain ⟨st', h1, h2⟩ := runOps_sound hC h
      exact ⟨.normal, st'.fade, h1, fun hS Q hQ => wp_region (h2 hS (fun e a w => Q e a w) fun μ' a' w' hS' => hQ _ _ _ hS'.fade)⟩
  | seq x y ihx ihy =>
    rw [LOK] at hL
    have ihx := @ihx hL.1
    have hL2 := hL.2
    intro st k h
    rw [exec] at h
    obtain ⟨e, st1, h1, h2⟩ := ihx h
    cases e with
    | normal =>
      have : ∃ e' st', k e' st' = some r ∧ Goes P y (scrub M y st1) e' st' := by
        simp only at h1
        split at h1
        · rename_i G hG
          rw [hG] at hL2
          exact hL2 h1
        · rename_i hG
          rw [hG] at hL2
          exact @ihy hL2 _ _ h1
      obtain ⟨e', st', h3, h4⟩ := this
      exact ⟨e', st', h3, fun hS Q hQ => wp_seq (h2 hS _ fun μ' a' w' hS' => h4 (hS'.scrub M y) Q hQ)⟩
    | exit id => exact ⟨_, st1, h1, fun hS Q hQ => wp_seq (h2 hS _ hQ)⟩
    | ret => exact ⟨_, st1, h1, fun hS Q hQ => wp_seq (h2 hS _ hQ)⟩
  | cond c x y ihx ihy =>
    have ihx := @ihx hL.1
    have ihy := @ihy hL.2
    intro st k h
    rw [exec] at h
    split at h
    · rename_i g t hc
      have gen : ∀ t : Bool, (∀ {E : Env} {μ : Mu} {a : Act} {w : World}, StR E st μ a w → a.eval c = .bool t) → (if t = true then exec C n M LP x st k else exec C n M LP y st k) = some r →
          ∃ e st', k e st' = some r ∧ Goes P (.cond c x y) st e st' := by
        intro t hev h
        cases t with
        | true =>
          obtain ⟨e, st', h1, h2⟩ := ihx (by simpa using h)
          exact ⟨e, st', h1, fun hS Q hQ => wp_cond_true (hev hS) (h2 hS Q hQ)⟩
        | false =>
          obtain ⟨e, st', h1, h2⟩ := ihy (by simpa using h)
          exact ⟨e, st', h1, fun hS Q hQ => wp_cond_false (hev hS) (h2 hS Q hQ)⟩
      refine gen t (fun hS => ?_) h
      have := hS.ev c
      rw [hc] at this
      exact this.bool
    · cases h
  | block id c ih =>
    have ih := @ih hL
    intro st k h
    rw [exec] at h
    obtain ⟨e, st1, h1, h2⟩ := ih h
    cases e with
    | normal => exact ⟨_, st1, h1, fun hS Q hQ => wp_block (h2 hS _ hQ)⟩
    | ret => exact ⟨_, st1, h1, fun hS Q hQ => wp_block (h2 hS _ hQ)⟩
    | exit j =>
      simp only at h1
      by_cases hj : j = id
      · rw [if_pos hj] at h1
        exact ⟨_, st1, h1, fun hS Q hQ => wp_block (h2 hS _ fun μ' a' w' hS' => by simp only [Ex.ex, Exit.inBlock, if_pos hj]; exact hQ _ _ _ hS')⟩
      · rw [if_neg hj] at h1
        exact ⟨_, st1, h1, fun hS Q hQ => wp_block (h2 hS _ fun μ' a' w' hS' => by simp only [Ex.ex, Exit.inBlock, if_neg hj]; exact hQ _ _ _ hS')⟩
  | loop c ih =>
    intro st k h
    rw [exec] at h
    rw [LOK] at hL
    split at h
    · rename_i G hG
      rw [hG] at hL
      obtain ⟨e, st', h1, h2⟩ := hL h
      exact ⟨e, st', h1, fun hS Q hQ => h2 (hS.scrub M c) Q hQ⟩
    · rename_i hG
      rw [hG] at hL
      obtain ⟨e, st', h1, h2⟩ := iter_sound (P := P) (c := c) (fun {st k} hb => body_sound (@ih hL) hb) h
      exact ⟨e, st', h1, fun hS Q hQ => wp_loop_rounds n (h2 (hS.scrub M c) Q hQ)⟩
  | _ => intro st k h; simp [exec] at h

end
end Go.Eng

/- The engine, part 31: leaving a function; what a function's run is worth. -/
namespace Go.Eng

section
variable {P : Program} {C : Ctx} {Rr : Type} {r : Rr} {E E' : Env} {ob ob' : Store} {μ μ' : Mu} {w w' : World}

def resOne (tmps : Array Value) : ResultVar → Sem Value
  | .tmp t => pure (tmps.getD t undef)
  | .cell a t => do loadVar t (← asAddr (tmps.getD a undef))

theorem load_cell {T : TypeId} {v0 v : Value} (h : (Instr.loadAt T v0).run P w = .ok v w) : (do loadVar T (← asAddr v0) : Sem Value).run P w = .ok v w := by
  unfold Instr.loadAt at h
  cases v0 with
  | pointer p =>
    cases p with
    | some a => simpa [Instr.sureAddr, asAddr] using h
    | none => simp [Instr.sureAddr, stuck] at h
  | _ => simp [Instr.sureAddr, stuck] at h

theorem resK_sound (hC : CtxT P C) {st : St} : ∀ {rs : List ResultVar} {k : List AV → Option Rr}, resK C st rs k = some r →
    ∃ xs, k xs = some r ∧ ∀ {E : Env} {μ : Mu} {a : Act} {w : World}, StR E st μ a w → ∃ vs, (rs.mapM (resOne a.tmps)).run P w = .ok vs w ∧ ArgsR E st.ob μ w xs vs
  | [], k, h => ⟨[], h, fun hS => ⟨[], by simp, .nil⟩⟩
  | .tmp t :: rs, k, h => by
    rw [resK] at h
    obtain ⟨xs, h1, h2⟩ := resK_sound hC h
    refine ⟨_, h1, fun hS => ?_⟩
    obtain ⟨vs, h3, h4⟩ := h2 hS
    exact ⟨_, by simp [resOne, h3], .cons (hS.slot t) h4⟩
  | .cell a T :: rs, k, h => by
    rw [resK] at h
    obtain ⟨z, h1, h2⟩ := loadK_sound hC h
    obtain ⟨xs, h3, h4⟩ := resK_sound hC h1
    refine ⟨_, h3, fun hS => ?_⟩
    obtain ⟨v, h5, h6⟩ := h2 hS.rel (hS.slot a)
    obtain ⟨vs, h7, h8⟩ := h4 hS
    have h9 := load_cell h5.here
    refine ⟨_, ?_, .cons h6 h8⟩
    rw [List.mapM_cons]
    simp only [resOne]
    rw [Sem.run_bind, h9]
    simp [h7]

theorem vRes_sound : ∀ {fr : List (Option Ty)} {xs : List AV} {k : List AV → Option Rr}, vRes fr xs k = some r →
    ∃ ys, k ys = some r ∧ ∀ {E : Env} {ob : Store} {μ : Mu} {w : World} {vs : List Value}, ArgsR E ob μ w xs vs → ArgsR E ob μ w ys vs
  | [], xs, k, h => ⟨xs, by simpa [vRes] using h, fun ha => ha⟩
  | _ :: _, [], k, h => ⟨[], by simpa [vRes] using h, fun ha => ha⟩
  | none :: fr, x :: xs, k, h => by
    rw [vRes] at h
    obtain ⟨ys, h1, h2⟩ := vRes_sound h
    exact ⟨_, h1, fun ha => by cases ha with | cons hx ha => exact .cons hx (h2 ha)⟩
  | some t :: fr, x :: xs, k, h => by
    rw [vRes] at h
    obtain ⟨g, d, h1, h2⟩ := plainT_sound h
    obtain ⟨ys, h3, h4⟩ := vRes_sound h1
    exact ⟨_, h3, fun ha => by cases ha with | cons hx ha => exact .cons (VR.v_iff.2 (h2 hx)) (h4 ha)⟩

theorem tr_ofList : ∀ {xs : List AV} {vs : List Value}, xs.all (fun x => !x.isTup) = true → ArgsR E ob μ w xs vs → TR E ob μ w (AV.ofList xs) vs
  | [], _, _, h => by cases h; trivial
  | x :: xs, _, ht, h => by
    cases h with
    | cons hx h =>
      simp only [List.all_cons, Bool.and_eq_true] at ht
      refine ⟨?_, tr_ofList ht.2 h⟩
      cases x with
      | dead => exact .inl rfl
      | tup l => simp [AV.isTup] at ht
      | _ => exact .inr hx

theorem results_run {fn : Func} {tmps : Array Value} {vs : List Value} {xs : List AV} (h : (fn.results.toList.mapM (resOne tmps)).run P w = .ok vs w)
    (ht : xs.all (fun x => !x.isTup) = true) (ha : ArgsR E ob μ w xs vs) : ∃ v, (results fn tmps).run P w = .ok v w ∧ VR E ob μ w (resOf xs) v := by
  have hrun : (results fn tmps).run P w = .ok (if h : vs.toArray.size = 1 then vs.toArray[0] else .tuple vs.toArray) w := by
    have hd : results fn tmps = (do let vs ← fn.results.mapM (resOne tmps); pure (if h : vs.size = 1 then vs[0] else .tuple vs)) := by
      unfold results
      congr 2
    rw [hd]
    rw [Array.mapM_eq_mapM_toList]
    simp [h]
  refine ⟨_, hrun, ?_⟩
  have hl := ha.len
  match xs, vs, ha, ht, hl with
  | [], [], ha, ht, _ => exact ⟨#[], rfl, trivial⟩
  | [x], [v], ha, ht, _ =>
    cases ha with
    | cons hx _ => simpa [resOf] using hx
  | x :: y :: xs, v :: v' :: vs, ha, ht, _ =>
    refine ⟨(v :: v' :: vs).toArray, by simp, ?_⟩
    simpa using tr_ofList ht ha
  | [], _ :: _, _, _, h => simp at h
  | _ :: _, [], _, _, h => simp at h
  | [_], _ :: _ :: _, _, _, h => simp at h
  | _ :: _ :: _, [_], _, _, h => simp at h

theorem leave_sound {st : St} {lent : Nat} {x : AV} {k : AV → Store → Option Rr} (h : leaveX lent st x k = some r) :
    ∃ x' ob', k x' ob' = some r ∧ ∀ {w0 w : World} {ob0 : Store} {μ0 μ : Mu} {A : Nat → Prop} {a : Act} {v : Value}, (∀ n o, ob0.get n = some o → n < lent) → StR (callEnv w0 ob0 μ0 A) st μ a w →
      VR (callEnv w0 ob0 μ0 A) st.ob μ w x v → ∃ μ', Rel (callEnv w0 ob0 μ0 A) ob' μ' w ∧ VR (callEnv w0 ob0 μ0 A) ob' μ' w x' v := by
  unfold leaveX at h
  simp only at h
  split at h
  · rename_i hchk
    simp only [Bool.and_eq_true, List.all_eq_true, List.mem_range, List.contains_eq_mem, decide_eq_true_eq, beq_iff_eq] at hchk
    obtain ⟨⟨⟨⟨⟨c1, c2⟩, c3⟩, c4⟩, c5⟩, c6⟩ := hchk
    generalize hN : reach st.ob 64 (List.range lent ++ x.names) [] = N at *
    have hL := closedB_iff c1
    refine ⟨_, _, h, fun {w0 w ob0 μ0 μ A a v} hob hS hx => ?_⟩
    have hR := hS.rel
    have hget : ∀ j, (packS st.ob (idxOf N) same 0 N).get j = ((N[j]?).bind st.ob.get).map (Obj.rn (idxOf N) same) := fun j => packS_get0 hL.there j
    have hi : ∀ i, i < lent → N[i]? = some i := fun i hi => by
      have := c3 i hi
      have h1 := idxOf_get this.2
      rw [this.1] at h1
      exact h1
    have hlt : ∀ {j n}, N[j]? = some n → n < 64 → j = n ∧ j < lent := fun {j n} h1 h2 => by
      have hj : j < lent := Classical.byContradiction fun hj => by
        have : n ∈ N.drop lent := List.mem_of_getElem? (i := j - lent) (by rw [List.getElem?_drop, show lent + (j - lent) = j by omega]; exact h1)
        have := c4 n this
        omega
      have h2 := hi j hj
      rw [h1] at h2
      exact ⟨(Option.some.inj h2).symm, hj⟩
    have hpr : ∀ {j b}, PrivN (packS st.ob (idxOf N) same 0 N) (lentMu N μ) j b → ∃ n, N[j]? = some n ∧ PrivN st.ob μ n b := by
      rintro j b ⟨o, y, h1, h2, h3⟩
      rw [hget] at h1
      cases hg : N[j]? with
      | none => simp [hg] at h1
      | some n =>
        simp only [lentMu, hg, Option.bind_some] at h1 h2
        cases ho : st.ob.get n with
        | none => simp [ho] at h1
        | some o0 => exact ⟨n, rfl, o0, y, ho, h2, h3⟩
    have hv : ReadsR (callEnv w0 ob0 μ0 A) st.ob μ (callEnv w0 ob0 μ0 A) (packS st.ob (idxOf N) same 0 N) (lentMu N μ) w (fun _ _ => true) same := fun g t _ d cs h =>
      h.sub fun b hb _ => ⟨fun ⟨j, o, y, hp⟩ => by obtain ⟨n, _, h2⟩ := hpr ⟨o, y, hp⟩; exact hb.1 h2.priv, hb.2⟩
    have hk : ∀ n ∈ N, KeepsR (idxOf N) st.ob μ (packS st.ob (idxOf N) same 0 N) (lentMu N μ) n := fun n hn o ho =>
      ⟨o.rn (idxOf N) same, by rw [hget, idxOf_get hn]; simp [ho], Like.rn _ _ _, by simp [lentMu, idxOf_get hn], by simp [lentMu, idxOf_get hn]⟩
    refine ⟨lentMu N μ, ⟨hR.lent, hR.size, hR.io, hR.frame, ?_, ?_, ?_, ?_⟩, hx.rn hv (fun n hn => hk n (c2 n hn)) c5 x.allv_true⟩
    · intro j o y h1 h2
      obtain ⟨n, h3, o', y', h4, h5, h6⟩ := hpr (b := y.block) ⟨o, y, h1, h2, rfl⟩
      have := hR.own n o' y' h4 h5
      rw [h6] at this
      refine ⟨this.1, fun hb => ?_⟩
      have hX := this.2 hb
      obtain ⟨rfl, _⟩ := hlt h3 (hR.lent _ _ hX).2
      exact hX
    · intro i j o o' y z h1 h2 h3 h4 hb
      obtain ⟨n, a1, o1, x1, a2, a3, a4⟩ := hpr (b := y.block) ⟨o, y, h1, h3, rfl⟩
      obtain ⟨m, b1, o2, x2, b2, b3, b4⟩ := hpr (b := z.block) ⟨o', z, h2, h4, rfl⟩
      obtain rfl := hR.inj n m o1 o2 x1 x2 a2 b2 a3 b3 (by rw [a4, b4, hb])
      exact getElem?_inj_nodup hL.nodup a1 b1
    · intro j o ho
      rw [hget] at ho
      cases hg : N[j]? with
      | none => simp [hg] at ho
      | some n =>
        have hn := List.mem_of_getElem? hg
        obtain ⟨o0, h0⟩ := hL.there n hn
        simp only [hg, Option.bind_some, h0, Option.map_some, Option.some.injEq] at ho
        subst ho
        exact (hR.objs n o0 h0).rn hv (fun m hm => hk m (hL.names n hn o0 h0 m hm)) (by have := c6 n hn; simpa [h0] using this) o0.allv_true (by simp [lentMu, hg]) (by simp [lentMu, hg])
    · intro n y c T hB
      obtain ⟨k1, k2⟩ := hR.keep n y c T hB
      refine ⟨k1, fun o ho => ?_⟩
      have hnl : n < lent := by
        simp only [callEnv] at hB
        split at hB
        · rename_i h1 _; exact hob n _ h1
        · cases hB
      have hn := hi n hnl
      rw [hget, hn] at ho
      simp only [Option.bind_some] at ho
      cases hg : st.ob.get n with
      | none => simp [hg] at ho
      | some o0 =>
        simp only [hg, Option.map_some, Option.some.injEq] at ho
        subst ho
        obtain ⟨⟨a1, rfl⟩, e1, e2⟩ := k2 o0 hg
        exact ⟨⟨_, rfl⟩, by simp [lentMu, hn, e1], by simp [lentMu, hn, e2]⟩
  · cases h

theorem leaveK_sound (hC : CtxT P C) {fr : List (Option Ty)} {fn : Func} {st : St} {lent : Nat} {k : AV → Store → Option Rr} (h : leaveK C fr lent st fn.results.toList k = some r) :
    ∃ x' ob', k x' ob' = some r ∧ ∀ {w0 w : World} {ob0 : Store} {μ0 μ : Mu} {A : Nat → Prop} {a : Act}, (∀ n o, ob0.get n = some o → n < lent) → StR (callEnv w0 ob0 μ0 A) st μ a w →
      ∃ v μ', (results fn a.tmps).run P w = .ok v w ∧ Rel (callEnv w0 ob0 μ0 A) ob' μ' w ∧ VR (callEnv w0 ob0 μ0 A) ob' μ' w x' v := by
  unfold leaveK at h
  obtain ⟨xs0, h1, _⟩ := resK_sound hC h
  obtain ⟨st1, h2, h3⟩ := settle_sound h1
  obtain ⟨xs, h4, h5⟩ := resK_sound hC h2
  obtain ⟨ys, h6, h7⟩ := vRes_sound h4
  split at h6
  · rename_i ht
    obtain ⟨x', ob', h8, h9⟩ := leave_sound h6
    refine ⟨x', ob', h8, fun hob hS => ?_⟩
    have hS1 := h3 hS
    obtain ⟨vs, h10, h11⟩ := h5 hS1
    obtain ⟨v, h12, h13⟩ := results_run h10 ht (h7 h11)
    obtain ⟨μ', h14, h15⟩ := h9 hob hS1 h13
    exact ⟨v, μ', h12, h14, h15⟩
  · cases h6

theorem get_lt {ob : Store} (h : ob.map (·.1) = List.range ob.length) {n : Nat} {o : Obj} (hg : ob.get n = some o) : n < ob.length := by
  have : n ∈ ob.map (·.1) := List.mem_map.2 ⟨_, Store.get_mem hg, rfl⟩
  rw [h] at this
  simpa using this

theorem argSlots : ∀ {xs : List AV} {vs : List Value}, ArgsR E ob μ w xs vs → ∀ i (h : i < xs.length), VR E ob μ w xs[i] (vs.getD i undef)
  | [], _, _, i, h => by simp at h
  | x :: xs, _, ha, i, h => by
    cases ha with
    | cons hx ha =>
      cases i with
      | zero => simpa using hx
      | succ i => simpa using argSlots ha i (by simpa using h)

theorem nilArgs_sound {a : Act} : ∀ {l : List TypeId} {i : Nat} {st : St} {μ : Mu}, StR E st μ a w → ∃ μ', StR E (nilArgs C i l st) μ' a w
  | [], _, _, μ, h => ⟨μ, h⟩
  | T :: l, i, st, μ, h => by
    rw [nilArgs]
    split
    · rename_i t hx hT
      have hv := h.slot i
      rw [hx] at hv
      obtain ⟨μ1, h1, h2⟩ := new_none h (nm_ge i 15) (t := t) true
      exact nilArgs_sound (h1.know (by rw [hv.nils]; exact h2))
    · exact nilArgs_sound h

/-- a function's run on the machine is worth what the abstract run says -/
theorem runFn_sound (hC : CtxOK P C) {f : FuncId} {fn : Func} (hf : P.funcs[f]? = some fn) (M : Masks) {LP : Loops} (fr : List (Option Ty)) (hL : ∀ c, fn.body = some c → LOK P LP c) : Sound P f (runFn C M LP fr fn) := by
  intro Rr n args ob k r h
  unfold runFn at h
  split at h
  · rename_i c hb
    split at h
    · rename_i hob
      obtain ⟨e, st', h1, h2⟩ := exec_sound hC c (hL c hb) h
      have hex : ∃ x ob', k x ob' = some r ∧ (e = .normal ∨ e = .ret) ∧ ∀ {w0 w : World} {ob0 : Store} {μ0 μ : Mu} {A : Nat → Prop} {a : Act}, (∀ n o, ob0.get n = some o → n < ob.length) → StR (callEnv w0 ob0 μ0 A) st' μ a w →
          ∃ v μ', (results fn a.tmps).run P w = .ok v w ∧ Rel (callEnv w0 ob0 μ0 A) ob' μ' w ∧ VR (callEnv w0 ob0 μ0 A) ob' μ' w x v := by
        cases e with
        | exit id => cases h1
        | normal => obtain ⟨x, ob', h3, h4⟩ := leaveK_sound hC.toCtxT h1; exact ⟨x, ob', h3, .inl rfl, h4⟩
        | ret => obtain ⟨x, ob', h3, h4⟩ := leaveK_sound hC.toCtxT h1; exact ⟨x, ob', h3, .inr rfl, h4⟩
      obtain ⟨x, ob', h3, he, h4⟩ := hex
      refine ⟨x, ob', h3, fun w μ A vs hR ha => ?_⟩
      refine calls_of_wp hf hb ?_
      have hS : StR (callEnv w ob μ A) { sl := args ++ List.replicate (fn.ntmps - args.length) .dead, ob } μ { tmps := vs ++ Array.replicate (fn.ntmps - vs.size) undef, defers := [] } w := by
        have hl := ha.len
        simp only [Array.length_toList] at hl
        refine ⟨hR, ⟨by simp [hl], fun i hi => ?_⟩, rfl⟩
        by_cases hia : i < args.length
        · simp only [List.getElem_append_left hia]
          have := argSlots ha i hia
          have hiv : i < vs.size := by omega
          have e1 : (vs ++ Array.replicate (fn.ntmps - vs.size) undef).getD i undef = vs.toList.getD i undef := by
            simp [Array.getD, List.getD, Array.getElem?_eq_getElem hiv, Array.getElem_append_left hiv, show i < vs.size + (fn.ntmps - vs.size) by omega]
          rw [e1]; exact this
        · rw [List.getElem_append_right (by omega)]
          simp only [List.getElem_replicate]
          trivial
      obtain ⟨μ1, hS1⟩ := nilArgs_sound (C := C) (l := fn.params.toList) (i := 0) hS
      refine h2 hS1 _ fun μ' a' w' hS' => ?_
      obtain ⟨v, μ'', h5, h6, h7⟩ := h4 (fun n o ho => get_lt hob ho) hS'
      rcases he with rfl | rfl
      · exact ⟨hS'.defers, v, h5, v, μ'', rfl, h6, h7⟩
      · exact ⟨hS'.defers, v, h5, v, μ'', rfl, h6, h7⟩
    · cases h
  · cases h

end
end Go.Eng

/- The engine, part 32: shapes; what may be forgotten of a state; data in range. -/
namespace Go.Eng

/-- the shape of a value -/
inductive SD where
  | v (g : Bool) (t : Ty) | sl (n : Nat) | sub (n : Nat) | bs (n : Nat) (p : Path) | pe (n : Nat) (p : Path) | pb (n : Nat) (p : Path)
  | pr (g : Bool) (t : Ty) | nl (k : OpqK) | nils | clo (f : Nat) (caps : List Nat) | nil | cons (a b : SD) | ag (a : SD) | dead | ci (k : IntKind) (n : Int) | cb (b : Bool)

@[reducible] def SD.D : SD → Type
  | .v _ t | .pr _ t => t.D
  | .sub _ => Nat × Nat
  | .pe _ _ => Nat
  | .cons a b => a.D × b.D
  | .ag a => a.D
  | _ => Unit

def mkA : (s : SD) → s.D → AV
  | .v g t, d => .v g t d
  | .sl n, _ => .sl n
  | .sub n, d => .sub n d.1 d.2
  | .bs n p, _ => .bs n p
  | .pe n p, i => .pe n i p
  | .pb n p, _ => .pb n p
  | .pr g t, d => .pr g t d
  | .nl k, _ => .nl k
  | .nils, _ => .nils
  | .clo f cs, _ => .clo f cs
  | .nil, _ => .nil
  | .cons a b, d => .cons (mkA a d.1) (mkA b d.2)
  | .ag a, d => .ag (mkA a d)
  | .dead, _ => .dead
  | .ci k n, _ => .v true (.int k) n
  | .cb b, _ => .v true .bool b


/-- less is said -/
inductive AV.Le : AV → AV → Prop
  | refl (x : AV) : AV.Le x x
  | v {g g' : Bool} (h : g = true → g' = true) (t : Ty) (d : t.D) : AV.Le (.v g t d) (.v g' t d)
  | pr {g g' : Bool} (h : g = true → g' = true) (t : Ty) (d : t.D) : AV.Le (.pr g t d) (.pr g' t d)
  | cons {a a' b b' : AV} : AV.Le a a' → AV.Le b b' → AV.Le (.cons a b) (.cons a' b')
  | ag {a a' : AV} : AV.Le a a' → AV.Le (.ag a) (.ag a')
  | dead (x : AV) : AV.Le .dead x

theorem AV.Le.names {y x : AV} (h : AV.Le y x) : ∀ n ∈ y.names, n ∈ x.names := by
  induction h with
  | refl => exact fun _ h => h
  | v => exact fun _ h => by simp [AV.names] at h
  | pr => exact fun _ h => by simp [AV.names] at h
  | cons _ _ ih1 ih2 => exact fun n h => by simp only [AV.names, List.mem_append] at h ⊢; exact h.imp (ih1 n) (ih2 n)
  | ag _ ih => exact fun n h => by simp only [AV.names] at h ⊢; exact ih n h
  | dead => exact fun _ h => by simp [AV.names] at h

inductive Obj.Le : Obj → Obj → Prop
  | arr {g g' : Bool} (h : g = true → g' = true) (t : Ty) (l : List t.D) : Obj.Le (.arr g t l) (.arr g' t l)
  | box (T : Ty) {x y : AV} : AV.Le x y → Obj.Le (.box T x) (.box T y)
theorem Obj.Le.like {o' o : Obj} (h : Obj.Le o' o) : Like o o' := by cases h <;> simp [Like]
inductive Store.Le : Store → Store → Prop
  | nil : Store.Le [] []
  | cons (n : Nat) {o o' : Obj} {s s' : Store} : Obj.Le o o' → Store.Le s s' → Store.Le ((n, o) :: s) ((n, o') :: s')
theorem Store.Le.get : ∀ {s s' : Store}, Store.Le s s' → ∀ {n : Nat} {o : Obj}, s.get n = some o → ∃ o', s'.get n = some o' ∧ Obj.Le o o'
  | _, _, .cons _ ho hs, _, _, h => by
    simp only [Store.get] at h ⊢
    split at h
    · rename_i hm; rw [if_pos hm]; obtain rfl := Option.some.inj h; exact ⟨_, rfl, ho⟩
    · rename_i hm; rw [if_neg hm]; exact hs.get h
theorem Store.Le.get' : ∀ {s s' : Store}, Store.Le s s' → ∀ {n : Nat} {o : Obj}, s'.get n = some o → ∃ o', s.get n = some o' ∧ Obj.Le o' o
  | _, _, .cons _ ho hs, _, _, h => by
    simp only [Store.get] at h ⊢
    split at h
    · rename_i hm; rw [if_pos hm]; obtain rfl := Option.some.inj h; exact ⟨_, rfl, ho⟩
    · rename_i hm; rw [if_neg hm]; exact hs.get' h
inductive SlotsLe : List AV → List AV → Prop
  | nil : SlotsLe [] []
  | cons {x y : AV} {l m : List AV} : AV.Le x y → SlotsLe l m → SlotsLe (x :: l) (y :: m)
theorem SlotsLe.len : ∀ {l m : List AV}, SlotsLe l m → l.length = m.length
  | _, _, .nil => rfl
  | _, _, .cons _ h => by simp [h.len]
theorem SlotsLe.get : ∀ {l m : List AV}, SlotsLe l m → ∀ {i : Nat} (h : i < l.length) (h' : i < m.length), AV.Le l[i] m[i]
  | _, _, .cons hx h, 0, _, _ => hx
  | _, _, .cons hx h, i + 1, h1, h2 => h.get (i := i) (by simpa using h1) (by simpa using h2)
structure St.Le (s s' : St) : Prop where
  sl : SlotsLe s.sl s'.sl
  ob : Store.Le s.ob s'.ob

section
variable {P : Program} {E E' : Env} {ob ob' : Store} {μ μ' : Mu} {w w' : World}

theorem Sb.tag {g g' : Bool} {b : Nat} (hg : g = true → g' = true) (h : Sb E ob μ g' b) : Sb E ob μ g b :=
  ⟨h.1, h.2.1, fun hb => ⟨by
    have := (h.2.2 hb).1
    revert hg this
    cases g <;> cases g' <;> simp, (h.2.2 hb).2⟩⟩

theorem CR.le {y x : AV} (h : AV.Le y x) : ∀ {T : Ty} {cs : List Value}, CR E ob μ w x T cs → CR E ob μ w y T cs := by
  induction h with
  | refl => exact id
  | v hg t d => intro T cs h; simp only [CR] at h ⊢; exact ⟨h.1, h.2.sub fun b hb _ => hb.tag hg⟩
  | pr hg t d =>
    intro T cs h
    simp only [CR] at h ⊢
    obtain ⟨rfl, x, es, h1, h2, h3, h4, h5, h6⟩ := h
    exact ⟨rfl, x, es, h1, h2, h3.tag hg, h4, h5.sub fun b hb _ => hb.tag hg, h6⟩
  | cons _ _ ih1 ih2 =>
    intro T cs h
    simp only [CR] at h ⊢
    obtain ⟨a, b, h1, h2, h3⟩ := h
    exact ⟨a, b, h1, ih1 h2, ih2 h3⟩
  | ag _ ih => intro T cs h; simp only [CR] at h ⊢; exact ⟨h.1, ih h.2⟩
  | dead => intro T cs h; simpa only [CR] using h.len

theorem SR.le {y x : AV} {v : Value} (h : AV.Le y x) (hx : SR E ob μ w x v) : SR E ob μ w y v := let ⟨T, h1, h2⟩ := hx; ⟨T, h1.le h, h2⟩
theorem SRd.le {y x : AV} {v : Value} (h : AV.Le y x) (hx : SRd E ob μ w x v) : SRd E ob μ w y v := by
  rcases hx with rfl | hx
  · cases h
    · exact .inl rfl
    · exact .inl rfl
  · exact .inr (hx.le h)
theorem VR.le {y x : AV} {v : Value} (h : AV.Le y x) (hx : VR E ob μ w x v) : VR E ob μ w y v := by
  cases h with
  | refl => exact hx
  | v hg t d => exact SR.le (.v hg t d) hx
  | pr hg t d => exact SR.le (.pr hg t d) hx
  | cons h1 h2 => exact SR.le (.cons h1 h2) hx
  | ag h => exact SR.le (.ag h) hx
  | dead => trivial

theorem ObjR.le {n : Nat} {o o' : Obj} (h : Obj.Le o' o) (ho : ObjR E ob μ w n o) : ObjR E ob μ w n o' := by
  cases h with
  | arr hg t l =>
    simp only [ObjR] at ho ⊢
    obtain ⟨h1, h2, h3, h4⟩ := ho
    refine ⟨h1, h2, h3, fun x hx => ?_⟩
    obtain ⟨h5, h6, h7⟩ := h4 x hx
    refine ⟨h5, h6, fun i hi => ?_⟩
    obtain ⟨es, h8, h9⟩ := h7 i hi
    exact ⟨es, h8.sub fun b hb _ => hb.tag hg, h9⟩
  | box T hx =>
    simp only [ObjR] at ho ⊢
    obtain ⟨x, cs, h1, h2, h3, h4⟩ := ho
    exact ⟨x, cs, h1, h2, h3.le hx, h4⟩
theorem Store.Le.sub {s s' : Store} (h : Store.Le s s') : Sub s' s := ⟨fun _ _ h1 => let ⟨o, h2, h3⟩ := h.get h1; ⟨o, h2, h3.like⟩⟩
theorem Store.Le.keeps {s s' : Store} (h : Store.Le s s') (μ : Mu) (n : Nat) : Keeps s' μ s μ n := fun _ ho => let ⟨o', h2, h3⟩ := h.get' ho; ⟨o', h2, h3.like, rfl, rfl⟩
theorem Rel.le {s s' : Store} (h : Store.Le s s') (hR : Rel E s' μ w) : Rel E s μ w :=
  hR.sub h.sub fun _ _ h1 => by
    obtain ⟨_, h2, h3⟩ := h.get h1
    exact ((hR.objs _ _ h2).move h.sub.moves (fun k _ => h.keeps μ k) (fun _ _ => rfl) rfl rfl).le h3
theorem StR.le {st st' : St} {a : Act} (h : St.Le st' st) (hS : StR E st μ a w) : StR E st' μ a w := by
  refine ⟨hS.rel.le h.ob, ⟨by rw [h.sl.len]; exact hS.slots.1, fun i hi => ?_⟩, hS.defers⟩
  have hi' : i < st.sl.length := by rw [← h.sl.len]; exact hi
  exact ((hS.slots.2 i hi').move h.ob.sub.moves fun n _ => h.ob.keeps μ n).le (h.sl.get hi hi')
end

section
variable {R : Type} {r : R}

def unA : (s : SD) → AV → (s.D → Option R) → Option R
  | .v g t, .v g' t' d, k => if (g' || !g) = true then (if h : t' = t then k (h ▸ d) else none) else none
  | .sl n, .sl n', k => if n' = n then k () else none
  | .sub n, .sub n' o l, k => if n' = n then k (o, l) else none
  | .bs n p, .bs n' p', k => if n' = n ∧ p' = p then k () else none
  | .pe n p, .pe n' i p', k => if n' = n ∧ p' = p then k i else none
  | .pb n p, .pb n' p', k => if n' = n ∧ p' = p then k () else none
  | .pr g t, .pr g' t' d, k => if (g' || !g) = true then (if h : t' = t then k (h ▸ d) else none) else none
  | .nl z, .nl z', k => if z' = z then k () else none
  | .nils, .nils, k => k ()
  | .clo f cs, .clo f' cs', k => if f' = f ∧ cs' = cs then k () else none
  | .nil, .nil, k => k ()
  | .cons a b, .cons x y, k => unA a x fun d => unA b y fun e => k (d, e)
  | .ag a, .ag x, k => unA a x k
  | .dead, _, k => k ()
  | .ci j n, .v g t d, k => match t, d with
    | .int j', m => if g = true ∧ j' = j ∧ m = n then k () else none
    | _, _ => none
  | .cb b, .v g t d, k => match t, d with
    | .bool, b' => if g = true ∧ b' = b then k () else none
    | _, _ => none
  | _, _, _ => none

theorem tag_of {g g' : Bool} (h : (g' || !g) = true) : g = true → g' = true := by cases g <;> cases g' <;> simp_all

theorem unA_sound : {s : SD} → {x : AV} → {k : s.D → Option R} → unA s x k = some r → ∃ d, AV.Le (mkA s d) x ∧ k d = some r := by
  intro s
  induction s with
  | v g t =>
    intro x k h
    cases x <;> (try (simp [unA] at h; done))
    rw [unA] at h
    split at h
    · rename_i hg
      split at h
      · rename_i ht; subst ht; exact ⟨_, .v (tag_of hg) _ _, h⟩
      · cases h
    · cases h
  | pr g t =>
    intro x k h
    cases x <;> (try (simp [unA] at h; done))
    rw [unA] at h
    split at h
    · rename_i hg
      split at h
      · rename_i ht; subst ht; exact ⟨_, .pr (tag_of hg) _ _, h⟩
      · cases h
    · cases h
  | sl n | sub n | nl z =>
    intro x k h
    cases x <;> (try (simp [unA] at h; done))
    rw [unA] at h
    split at h
    · rename_i hg; subst hg; exact ⟨_, .refl _, h⟩
    · cases h
  | bs n p | pe n p | pb n p | clo n p =>
    intro x k h
    cases x <;> (try (simp [unA] at h; done))
    rw [unA] at h
    split at h
    · rename_i hg; obtain ⟨rfl, rfl⟩ := hg; exact ⟨_, .refl _, h⟩
    · cases h
  | nils | nil =>
    intro x k h
    cases x <;> (try (simp [unA] at h; done))
    rw [unA] at h
    exact ⟨_, .refl _, h⟩
  | cons a b iha ihb =>
    intro x k h
    cases x <;> (try (simp [unA] at h; done))
    rw [unA] at h
    obtain ⟨d, h0, h1⟩ := iha h
    obtain ⟨e, h2, h3⟩ := ihb h1
    exact ⟨(d, e), .cons h0 h2, h3⟩
  | ag a ih =>
    intro x k h
    cases x <;> (try (simp [unA] at h; done))
    rw [unA] at h
    obtain ⟨d, h0, h1⟩ := ih h
    exact ⟨d, .ag h0, h1⟩
  | dead => intro x k h; rw [unA] at h; exact ⟨(), .dead _, h⟩
  | ci j n =>
    intro x k h
    cases x <;> (try (simp [unA] at h; done))
    rename_i g t d
    cases t <;> (try (simp [unA] at h; done))
    rw [unA] at h
    split at h
    · rename_i hg; obtain ⟨rfl, rfl, rfl⟩ := hg; exact ⟨(), .refl _, h⟩
    · cases h
  | cb b =>
    intro x k h
    cases x <;> (try (simp [unA] at h; done))
    rename_i g t d
    cases t <;> (try (simp [unA] at h; done))
    rw [unA] at h
    split at h
    · rename_i hg; obtain ⟨rfl, rfl⟩ := hg; exact ⟨(), .refl _, h⟩
    · cases h

@[reducible] def LD : List SD → Type
  | [] => Unit
  | s :: l => s.D × LD l
def mkL : (l : List SD) → LD l → List AV
  | [], _ => []
  | s :: l, d => mkA s d.1 :: mkL l d.2
def unL : (l : List SD) → List AV → (LD l → Option R) → Option R
  | [], [], k => k ()
  | s :: l, x :: xs, k => unA s x fun d => unL l xs fun e => k (d, e)
  | _, _, _ => none
theorem unL_sound : {l : List SD} → {xs : List AV} → {k : LD l → Option R} → unL l xs k = some r → ∃ d, SlotsLe (mkL l d) xs ∧ k d = some r
  | [], [], k, h => ⟨(), .nil, by simpa [unL] using h⟩
  | [], _ :: _, k, h => by simp [unL] at h
  | _ :: _, [], k, h => by simp [unL] at h
  | s :: l, x :: xs, k, h => by
    rw [unL] at h
    obtain ⟨d, h0, h1⟩ := unA_sound h
    obtain ⟨e, h2, h3⟩ := unL_sound h1
    exact ⟨(d, e), .cons h0 h2, h3⟩

/-- the shape of an object -/
inductive OD where
  | arr (g : Bool) (t : Ty) | box (T : Ty) (s : SD)
@[reducible] def OD.D : OD → Type
  | .arr _ t => List t.D
  | .box _ s => s.D
def mkO : (s : OD) → s.D → Obj
  | .arr g t, l => .arr g t l
  | .box T s, d => .box T (mkA s d)
def unO : (s : OD) → Obj → (s.D → Option R) → Option R
  | .arr g t, .arr g' t' l, k => if (g' || !g) = true then (if h : t' = t then k (h ▸ l) else none) else none
  | .box T s, .box T' x, k => if T' = T then unA s x k else none
  | _, _, _ => none
theorem unO_sound {s : OD} {o : Obj} {k : s.D → Option R} (h : unO s o k = some r) : ∃ d, Obj.Le (mkO s d) o ∧ k d = some r := by
  cases s with
  | arr g t =>
    cases o <;> (try (simp [unO] at h; done))
    rw [unO] at h
    split at h
    · rename_i hg
      split at h
      · rename_i ht; subst ht; exact ⟨_, .arr (tag_of hg) _ _, h⟩
      · cases h
    · cases h
  | box T s =>
    cases o <;> (try (simp [unO] at h; done))
    rw [unO] at h
    split at h
    · rename_i hg; subst hg
      obtain ⟨d, h0, h1⟩ := unA_sound h
      exact ⟨d, .box _ h0, h1⟩
    · cases h

abbrev OSh := List (Nat × OD)
@[reducible] def OLD : OSh → Type
  | [] => Unit
  | s :: l => s.2.D × OLD l
def mkOL : (l : OSh) → OLD l → Store
  | [], _ => []
  | s :: l, d => (s.1, mkO s.2 d.1) :: mkOL l d.2
def unOL : (l : OSh) → Store → (OLD l → Option R) → Option R
  | [], [], k => k ()
  | s :: l, x :: xs, k => if x.1 = s.1 then unO s.2 x.2 fun d => unOL l xs fun e => k (d, e) else none
  | _, _, _ => none
theorem unOL_sound : {l : OSh} → {xs : Store} → {k : OLD l → Option R} → unOL l xs k = some r → ∃ d, Store.Le (mkOL l d) xs ∧ k d = some r
  | [], [], k, h => ⟨(), .nil, by simpa [unOL] using h⟩
  | [], _ :: _, k, h => by simp [unOL] at h
  | _ :: _, [], k, h => by simp [unOL] at h
  | s :: l, (n, o) :: xs, k, h => by
    rw [unOL] at h
    split at h
    · rename_i hn
      obtain ⟨d, h0, h1⟩ := unO_sound h
      obtain ⟨e, h2, h3⟩ := unOL_sound h1
      simp only at hn h0
      subst hn
      exact ⟨(d, e), .cons _ h0 h2, h3⟩
    · cases h

def mkS (sh : List SD × OSh) (d : LD sh.1) (o : OLD sh.2) : St := ⟨mkL sh.1 d, mkOL sh.2 o⟩
def unS (sh : List SD × OSh) (st : St) (k : LD sh.1 → OLD sh.2 → Option R) : Option R := unL sh.1 st.sl fun d => unOL sh.2 st.ob fun e => k d e
theorem unS_sound {sh : List SD × OSh} {st : St} {k : LD sh.1 → OLD sh.2 → Option R} (h : unS sh st k = some r) : ∃ d o, St.Le (mkS sh d o) st ∧ k d o = some r := by
  obtain ⟨sl, ob⟩ := st
  unfold unS at h
  obtain ⟨d, h0, h1⟩ := unL_sound h
  obtain ⟨e, h2, h3⟩ := unOL_sound h1
  exact ⟨d, e, ⟨h0, h2⟩, h3⟩
end

/-! ### data in range -/
def okT : (t : Ty) → t.D → Prop
  | .int k, n => ok k n
  | .sl t, l => l.length ≤ maxI ∧ ∀ x ∈ l, okT t x
  | .arr n t, l => l.length = n ∧ ∀ x ∈ l, okT t x
  | .pair a b, d => okT a d.1 ∧ okT b d.2
  | .bool, _ | .str, _ | .unit, _ | .opq _, _ => True
theorem R.okT {w : World} {S : Nat → Prop} : {t : Ty} → {d : t.D} → {cs : List Value} → R w S t d cs → okT t d
  | .int _, _, _, h => by simp only [R] at h; exact h.2
  | .bool, _, _, _ | .str, _, _, _ | .unit, _, _, _ | .opq _, _, _, _ => trivial
  | .sl t, l, _, h => by
    simp only [R] at h
    obtain ⟨a, cap, _, h1, h2, h3, h4⟩ := h
    refine ⟨h2, fun x hx => ?_⟩
    obtain ⟨i, hi, rfl⟩ := List.getElem_of_mem hx
    cases a with
    | none => have := h3 rfl; omega
    | some a =>
      obtain ⟨_, _, _, h5⟩ := h4 a rfl (by omega)
      obtain ⟨es, h6, _⟩ := h5 i hi
      exact h6.okT
  | .arr n t, l, _, h => by
    simp only [R] at h
    refine ⟨h.1, fun x hx => ?_⟩
    obtain ⟨i, hi, rfl⟩ := List.getElem_of_mem hx
    exact (h.2.2 i hi).okT
  | .pair a b, d, _, h => by simp only [R] at h; exact ⟨h.1.okT, h.2.okT⟩
def okS : (s : SD) → s.D → Prop
  | .v _ t, d | .pr _ t, d => okT t d
  | .cons a b, d => okS a d.1 ∧ okS b d.2
  | .ag a, d => okS a d
  | _, _ => True
def okL : (l : List SD) → LD l → Prop
  | [], _ => True
  | s :: l, d => okS s d.1 ∧ okL l d.2
def okO : (s : OD) → s.D → Prop
  | .arr _ t, l => l.length ≤ maxI ∧ ∀ x ∈ l, okT t x
  | .box _ s, d => okS s d
def okOL : (l : OSh) → OLD l → Prop
  | [], _ => True
  | s :: l, d => okO s.2 d.1 ∧ okOL l d.2

section
variable {E E' : Env} {ob ob' : Store} {μ μ' : Mu} {w w' : World}
theorem CR.okS : {s : SD} → {d : s.D} → {T : Ty} → {cs : List Value} → CR E ob μ w (mkA s d) T cs → okS s d
  | .v _ t, _, _, _, h => by simp only [mkA, CR] at h; obtain ⟨rfl, h⟩ := h; exact h.okT
  | .pr _ t, _, _, _, h => by simp only [mkA, CR] at h; obtain ⟨_, _, _, _, _, _, _, h, _⟩ := h; exact h.okT
  | .cons a b, d, _, _, h => by simp only [mkA, CR] at h; obtain ⟨_, _, _, h1, h2⟩ := h; exact ⟨h1.okS, h2.okS⟩
  | .ag a, d, _, _, h => by simp only [mkA, CR] at h; exact CR.okS (s := a) h.2
  | .sl _, _, _, _, _ | .sub _, _, _, _, _ | .bs .., _, _, _, _ | .pe .., _, _, _, _ | .pb .., _, _, _, _ | .nl _, _, _, _, _ | .nils, _, _, _, _ | .clo .., _, _, _, _ | .nil, _, _, _, _ | .dead, _, _, _, _ | .ci .., _, _, _, _ | .cb .., _, _, _, _ => trivial
theorem VR.okS {s : SD} {d : s.D} {v : Value} (h : VR E ob μ w (mkA s d) v) : okS s d := by
  cases s with
  | dead => trivial
  | _ => obtain ⟨T, h, _⟩ := h; exact h.okS
theorem ObjR.okO {n : Nat} {s : OD} {d : s.D} (h : ObjR E ob μ w n (mkO s d)) : okO s d := by
  cases s with
  | arr g t =>
    simp only [mkO, ObjR] at h
    obtain ⟨h1, h2, h3, h4⟩ := h
    refine ⟨h2, fun x hx => ?_⟩
    obtain ⟨i, hi, rfl⟩ := List.getElem_of_mem hx
    cases ha : μ.addr n with
    | none => have := h3 ha; omega
    | some a =>
      obtain ⟨_, _, h5⟩ := h4 a ha
      obtain ⟨es, h6, _⟩ := h5 i hi
      exact h6.okT
  | box T s =>
    simp only [mkO, ObjR] at h
    obtain ⟨_, _, _, _, h, _⟩ := h
    exact CR.okS (s := s) h
theorem mem_mkOL : ∀ {l : OSh} {d : OLD l} {n : Nat} {o : Obj}, (n, o) ∈ mkOL l d → n ∈ l.map (·.1)
  | s :: l, d, n, o, h => by
    simp only [mkOL, List.mem_cons, Prod.mk.injEq] at h
    rcases h with ⟨rfl, _⟩ | h
    · simp
    · simp only [List.map_cons, List.mem_cons]; exact .inr (mem_mkOL h)
theorem okL_of : ∀ {l : List SD} {d : LD l}, (∀ i (h : i < (mkL l d).length), ∃ v, VR E ob μ w (mkL l d)[i] v) → okL l d
  | [], _, _ => trivial
  | s :: l, d, h => ⟨(h 0 (by simp [mkL])).elim fun _ h => VR.okS (by simpa [mkL] using h), okL_of (l := l) fun i hi => h (i + 1) (by simpa [mkL] using hi)⟩
theorem okOL_of : ∀ {l : OSh} {d : OLD l}, (l.map (·.1)).Nodup → (∀ n o, (mkOL l d).get n = some o → ObjR E ob μ w n o) → okOL l d
  | [], _, _, _ => trivial
  | s :: l, d, hn, h => by
    have hn := List.nodup_cons.1 (show (s.1 :: l.map (·.1)).Nodup from hn)
    refine ⟨(h s.1 (mkO s.2 d.1) (by simp [mkOL, Store.get])).okO, okOL_of (l := l) hn.2 fun n o hm => h n o ?_⟩
    simp only [mkOL, Store.get]
    rw [if_neg ?_]
    · exact hm
    · intro he
      have hmem := Store.get_mem hm
      exact hn.1 (he ▸ mem_mkOL hmem)
end
end Go.Eng

/- The engine, part 33: loops, joins and functions as contracts over plain data. -/
namespace Go.Eng

/-- t, where p holds; else nothing -/
noncomputable def need {R : Type} (p : Prop) (t : Option R) : Option R := @ite _ p (Classical.propDecidable p) t none
theorem need_pos {R : Type} {p : Prop} (h : p) (t : Option R) : need p t = t := by unfold need; rw [if_pos h]
theorem need_some {R : Type} {r : R} {p : Prop} {t : Option R} (h : need p t = some r) : p ∧ t = some r := by
  unfold need at h
  split at h
  · exact ⟨by assumption, h⟩
  · cases h
def caseS {A B R : Type} (x : A ⊕ B) (f : A → R) (g : B → R) : R :=
  match x with
  | .inl a => f a
  | .inr b => g b

section
variable {P : Program} {C : Ctx}

def bodyOf (C : Ctx) (M : Masks) (LP : Loops) (c : Code) {R : Type} (st : St) (kk : Ex → St → Option R) : Option R :=
  exec C 0 M LP c st fun e st' => match e with
    | .normal => kk .normal (scrub M c st')
    | e => kk e st'

theorem StR.okData {E : Env} {μ : Mu} {a : Act} {w : World} {sh : List SD × OSh} {d : LD sh.1} {o : OLD sh.2} (hn : (sh.2.map (·.1)).Nodup) (hS : StR E (mkS sh d o) μ a w) : okL sh.1 d ∧ okOL sh.2 o :=
  ⟨okL_of fun i hi => ⟨_, hS.slots.2 i hi⟩, okOL_of hn hS.rel.objs⟩

theorem bodyOf_sound (hC : CtxOK P C) {M : Masks} {LP : Loops} {c : Code} (hL : LOK P LP c) {Rr : Type} {r : Rr} {st : St} {kk : Ex → St → Option Rr} (h : bodyOf C M LP c st kk = some r) :
    ∃ e st', kk e st' = some r ∧ Goes P c st e st' :=
  body_sound (P := P) (M := M) (c := c) (ex := fun st k => exec C 0 M LP c st k) (kk := kk) (fun h => exec_sound hC c hL h) h

/-- a loop that is told by a function of its data -/
structure LoopK (C : Ctx) (M : Masks) (LP : Loops) (c : Code) where
  sh : List SD × OSh
  X : Type
  go : {R : Type} → LD sh.1 → OLD sh.2 → X → (Ex → St → Option R) → Option R
  pre : LD sh.1 → OLD sh.2 → Prop
  mu : LD sh.1 → OLD sh.2 → Nat
  S : LD sh.1 → OLD sh.2 → X
  T : {R : Type} → (LD sh.1 → OLD sh.2 → Option R) → (X → Option R) → LD sh.1 → OLD sh.2 → Option R
  hn : nodupB (sh.2.map (·.1)) = true
  hT : ∀ (R : Type) (K : Ex → St → Option R) (d : LD sh.1) (o : OLD sh.2),
    bodyOf C M LP c (mkS sh d o) K = T (fun d' o' => K .normal (mkS sh d' o')) (fun x => go d o x K) d o
  hx : ∀ d o x, ∃ e st, e ≠ .normal ∧ ∀ (R : Type) (k : Ex → St → Option R), go d o x k = k e st
  hS : ∀ d o, okL sh.1 d → okOL sh.2 o → pre d o → ∀ (R : Type) (rec : LD sh.1 → OLD sh.2 → Option R) (ex : X → Option R) (Good : Option R → Prop),
    (∀ d' o', (∀ (R : Type) (x : X) (k : Ex → St → Option R), go d' o' x k = go d o x k) → pre d' o' → mu d' o' < mu d o → S d' o' = S d o → Good (rec d' o')) →
    Good (ex (S d o)) → Good (T rec ex d o)

noncomputable def LoopK.G {M : Masks} {LP : Loops} {c : Code} (L : LoopK C M LP c) : LoopC := fun _ _ st k =>
  unS L.sh st fun d o => need (L.pre d o) (L.go d o (L.S d o) k)

theorem Goes.le {c : Code} {st st0 : St} {e : Ex} {st' : St} (h : Goes P c st0 e st') (hl : St.Le st0 st) : Goes P c st e st' := fun hS Q hQ => h (hS.le hl) Q hQ

theorem LoopK.sound (hC : CtxOK P C) {M : Masks} {LP : Loops} {c : Code} (L : LoopK C M LP c) (hL : LOK P LP c) : LoopS P c L.G := by
  intro Rr n st k r h
  obtain ⟨d, o, hle, h1⟩ := unS_sound h
  obtain ⟨hp, h2⟩ := need_some h1
  obtain ⟨e, st', hne, hgo⟩ := L.hx d o (L.S d o)
  rw [hgo] at h2
  refine ⟨e, st', h2, Goes.le ?_ hle⟩
  have key : ∀ (m : Nat) (d' : LD L.sh.1) (o' : OLD L.sh.2), (∀ (R : Type) (x : L.X) (k : Ex → St → Option R), L.go d' o' x k = L.go d o x k) → L.pre d' o' → L.S d' o' = L.S d o → L.mu d' o' < m →
      ∀ {E : Env} {μ : Mu} {a : Act} {w : World}, StR E (mkS L.sh d' o') μ a w →
      ∀ Q : Exit → Act → World → Prop, (∀ μ' a' w', StR E st' μ' a' w' → Q e.ex a' w') → Code.rounds P c Q m a w := by
    intro m
    induction m with
    | zero => intro d' o' _ _ _ hm; omega
    | succ m ih =>
      intro d' o' hi hp' hSe hm E μ a w hS Q hQ
      rw [rounds_succ]
      obtain ⟨k1, k2⟩ := hS.okData (nodupB_iff L.hn)
      have hgood := L.hS d' o' k1 k2 hp' (Ex × St) (fun d'' o'' => some (.normal, mkS L.sh d'' o'')) (fun x => L.go d' o' x fun e st => some (e, st))
        (fun z => z = some (e, st') ∨ ∃ d'' o'', z = some (.normal, mkS L.sh d'' o'') ∧ (∀ (R : Type) (x : L.X) (k : Ex → St → Option R), L.go d'' o'' x k = L.go d' o' x k) ∧
          L.pre d'' o'' ∧ L.mu d'' o'' < L.mu d' o' ∧ L.S d'' o'' = L.S d' o')
        (fun d'' o'' h0 h1 h2 h3 => .inr ⟨d'', o'', rfl, h0, h1, h2, h3⟩) (.inl (by rw [hSe, hi, hgo]))
      rw [← L.hT (Ex × St) (fun e st => some (e, st))] at hgood
      rcases hgood with hg | ⟨d'', o'', hg, h0, h4, h5, h6⟩
      · obtain ⟨e1, st1, h7, h8⟩ := bodyOf_sound hC hL hg
        simp only [Option.some.injEq, Prod.mk.injEq] at h7
        obtain ⟨rfl, rfl⟩ := h7
        refine h8 hS _ fun μ' a' w' hS' => ?_
        have := hQ μ' a' w' hS'
        revert this hne
        cases e1 with
        | normal => intro hne; exact absurd rfl hne
        | exit id => exact fun _ h => h
        | ret => exact fun _ h => h
      · obtain ⟨e1, st1, h7, h8⟩ := bodyOf_sound hC hL hg
        simp only [Option.some.injEq, Prod.mk.injEq] at h7
        obtain ⟨rfl, rfl⟩ := h7
        exact h8 hS _ fun μ' a' w' hS' => ih d'' o'' (fun R x k => (h0 R x k).trans (hi R x k)) h4 (h6.trans hSe) (by omega) hS' Q hQ
  intro E μ a w hS Q hQ
  exact wp_loop_rounds (L.mu d o + 1) (key (L.mu d o + 1) d o (fun _ _ _ => rfl) hp rfl (Nat.lt_succ_self _) hS Q hQ)

/-- code, shown as a function of its data -/
structure JoinK (C : Ctx) (M : Masks) (LP : Loops) (c : Code) where
  sh : List SD × OSh
  X : Type
  go : {R : Type} → LD sh.1 → OLD sh.2 → X → (Ex → St → Option R) → Option R
  T : {R : Type} → (X → Option R) → LD sh.1 → OLD sh.2 → Option R
  hT : ∀ (R : Type) (K : Ex → St → Option R) (d : LD sh.1) (o : OLD sh.2), exec C 0 M LP c (mkS sh d o) K = T (fun x => go d o x K) d o

/-- a state of another shape is run through -/
noncomputable def JoinK.G {M : Masks} {LP : Loops} {c : Code} (L : JoinK C M LP c) : LoopC := fun _ _ st k =>
  if (unS L.sh st fun _ _ => some ()).isSome = true then unS L.sh st fun d o => L.T (fun x => L.go d o x k) d o else exec C 0 M LP c st k

theorem JoinK.sound (hC : CtxOK P C) {M : Masks} {LP : Loops} {c : Code} (L : JoinK C M LP c) (hL : LOK P LP c) : CodeS P c L.G := by
  intro Rr n st k r h
  unfold JoinK.G at h
  split at h
  · obtain ⟨d, o, hle, h1⟩ := unS_sound h
    rw [← L.hT] at h1
    obtain ⟨e, st', h2, h3⟩ := exec_sound hC c hL h1
    exact ⟨e, st', h2, h3.le hle⟩
  · exact exec_sound hC c hL h

/-! ### functions -/
/-- a value taken as an argument of a shape: a bare nil is an empty slice -/
def unArg {R : Type} : (s : SD) → AV → (s.D → Option R) → Option R
  | .v g t, x, k => if x.isNils then plainT t x (fun g' d => if g' = true then k d else none) else unA (.v g t) x k
  | s, x, k => unA s x k
theorem unArg_sound {Rr : Type} {r : Rr} {s : SD} {x : AV} {k : s.D → Option Rr} (h : unArg s x k = some r) :
    ∃ d, k d = some r ∧ ∀ {E : Env} {ob : Store} {μ : Mu} {w : World} {v : Value}, VR E ob μ w x v → VR E ob μ w (mkA s d) v := by
  cases s with
  | v g t =>
    simp only [unArg] at h
    split at h
    · obtain ⟨g', d, h1, h2⟩ := plainT_sound h
      split at h1
      · rename_i hg; subst hg
        refine ⟨d, h1, fun hv => ?_⟩
        obtain ⟨h3, h4⟩ := h2 hv
        exact VR.le (.v (fun _ => rfl) _ _) (VR.v_iff.2 ⟨h3, h4⟩)
      · cases h1
    · obtain ⟨d, hl, h1⟩ := unA_sound h
      exact ⟨d, h1, fun hv => hv.le hl⟩
  | _ =>
    simp only [unArg] at h
    obtain ⟨d, hl, h1⟩ := unA_sound h
    exact ⟨d, h1, fun hv => hv.le hl⟩
def unArgs {R : Type} : (l : List SD) → List AV → (LD l → Option R) → Option R
  | [], [], k => k ()
  | s :: l, x :: xs, k => unArg s x fun d => unArgs l xs fun e => k (d, e)
  | _, _, _ => none
theorem unArgs_sound {Rr : Type} {r : Rr} : {l : List SD} → {xs : List AV} → {k : LD l → Option Rr} → unArgs l xs k = some r →
    ∃ d, k d = some r ∧ ∀ {E : Env} {ob : Store} {μ : Mu} {w : World} {vs : List Value}, ArgsR E ob μ w xs vs → ArgsR E ob μ w (mkL l d) vs
  | [], [], k, h => ⟨(), by simpa [unArgs] using h, fun ha => ha⟩
  | [], _ :: _, k, h => by simp [unArgs] at h
  | _ :: _, [], k, h => by simp [unArgs] at h
  | s :: l, x :: xs, k, h => by
    rw [unArgs] at h
    obtain ⟨d, h1, h2⟩ := unArg_sound h
    obtain ⟨e, h3, h4⟩ := unArgs_sound h1
    exact ⟨(d, e), h3, fun ha => by cases ha with | cons hx ha => exact .cons (h2 hx) (h4 ha)⟩

/-- results of shapes -/
def mkRes (l : List SD) (d : LD l) : AV := resOf (mkL l d)
def unTL {R : Type} : (l : List SD) → AV → (LD l → Option R) → Option R
  | [], .nil, k => k ()
  | s :: l, .cons x y, k => unArg s x fun d => unTL l y fun e => k (d, e)
  | _, _, _ => none
def unRes {R : Type} (l : List SD) (x : AV) (k : LD l → Option R) : Option R :=
  match l, k with
  | [s], k => unArg s x fun d => k (d, ())
  | l, k => match x with
    | .tup y => unTL l y k
    | _ => none
theorem VR.srd {E : Env} {ob : Store} {μ : Mu} {w : World} {s : SD} {d : s.D} {v : Value} (h : VR E ob μ w (mkA s d) v) : SRd E ob μ w (mkA s d) v := by
  cases s with
  | dead => exact .inl rfl
  | _ => exact .inr h
theorem unTL_sound {Rr : Type} {r : Rr} : {l : List SD} → {x : AV} → {k : LD l → Option Rr} → unTL l x k = some r →
    ∃ d, k d = some r ∧ ∀ {E : Env} {ob : Store} {μ : Mu} {w : World} {vs : List Value}, TR E ob μ w x vs → TR E ob μ w (AV.ofList (mkL l d)) vs
  | [], x, k, h => by
    cases x <;> (try (simp [unTL] at h; done))
    exact ⟨(), by simpa [unTL] using h, fun ht => ht⟩
  | s :: l, x, k, h => by
    cases x <;> (try (simp [unTL] at h; done))
    rw [unTL] at h
    obtain ⟨d, h1, h2⟩ := unArg_sound h
    obtain ⟨e, h3, h4⟩ := unTL_sound h1
    refine ⟨(d, e), h3, fun {E ob μ w vs} ht => ?_⟩
    cases vs with
    | nil => simp [TR] at ht
    | cons v vs =>
      simp only [TR] at ht
      simp only [mkL, AV.ofList, TR]
      refine ⟨?_, h4 ht.2⟩
      exact VR.srd (h2 ht.1.vr)
theorem resOf_ne {l : List AV} (h : l.length ≠ 1) : resOf l = .tup (AV.ofList l) := by
  unfold resOf
  split
  · simp at h
  · rfl
theorem mkL_len : ∀ (l : List SD) (d : LD l), (mkL l d).length = l.length
  | [], _ => rfl
  | _ :: l, d => by simp [mkL, mkL_len l]
theorem unRes_sound {Rr : Type} {r : Rr} {l : List SD} {x : AV} {k : LD l → Option Rr} (h : unRes l x k = some r) :
    ∃ d, k d = some r ∧ ∀ {E : Env} {ob : Store} {μ : Mu} {w : World} {v : Value}, VR E ob μ w x v → VR E ob μ w (mkRes l d) v := by
  unfold unRes at h
  split at h
  · obtain ⟨d, h1, h2⟩ := unArg_sound h
    exact ⟨(d, ()), h1, fun hv => h2 hv⟩
  · rename_i l' k' hl
    split at h
    · rename_i y
      obtain ⟨d, h1, h2⟩ := unTL_sound h
      refine ⟨d, h1, fun {E ob μ w v} hv => ?_⟩
      obtain ⟨vs, rfl, h3⟩ := hv
      unfold mkRes
      rw [resOf_ne (by rw [mkL_len]; intro he; obtain ⟨s, rfl⟩ := List.length_eq_one_iff.1 he; exact hl s k rfl HEq.rfl)]
      exact ⟨vs, rfl, h2 h3⟩
    · cases h

/-! results of one of several shapes -/
abbrev RSh := List (List SD × OSh)
@[reducible] def RX : RSh → Type
  | [] => Empty
  | [a] => LD a.1 × OLD a.2
  | a :: b :: l => (LD a.1 × OLD a.2) ⊕ RX (b :: l)
def mkRX : (l : RSh) → RX l → AV × Store
  | [], x => nomatch x
  | [a], x => (mkRes a.1 x.1, mkOL a.2 x.2)
  | a :: b :: l, x => match x with
    | .inl x => (mkRes a.1 x.1, mkOL a.2 x.2)
    | .inr x => mkRX (b :: l) x
def unRO {R : Type} (a : List SD × OSh) (x : AV) (ob : Store) (k : LD a.1 × OLD a.2 → Option R) : Option R := unRes a.1 x fun r => unOL a.2 ob fun q => k (r, q)
def unRX {R : Type} : (l : RSh) → AV → Store → (RX l → Option R) → Option R
  | [], _, _, _ => none
  | [a], x, ob, k => unRO a x ob k
  | a :: b :: l, x, ob, k => if (unRO a x ob fun _ => some ()).isSome = true then unRO a x ob fun y => k (.inl y) else unRX (b :: l) x ob fun y => k (.inr y)
theorem unRO_sound {Rr : Type} {r : Rr} {a : List SD × OSh} {x : AV} {ob : Store} {k : LD a.1 × OLD a.2 → Option Rr} (h : unRO a x ob k = some r) :
    ∃ y, k y = some r ∧ Store.Le (mkOL a.2 y.2) ob ∧ ∀ {E : Env} {ob : Store} {μ : Mu} {w : World} {v : Value}, VR E ob μ w x v → VR E ob μ w (mkRes a.1 y.1) v := by
  unfold unRO at h
  obtain ⟨d, h1, h2⟩ := unRes_sound h
  obtain ⟨q, h3, h4⟩ := unOL_sound h1
  exact ⟨(d, q), h4, h3, h2⟩
theorem unRX_sound {Rr : Type} {r : Rr} : {l : RSh} → {x : AV} → {ob : Store} → {k : RX l → Option Rr} → unRX l x ob k = some r →
    ∃ y, k y = some r ∧ Store.Le (mkRX l y).2 ob ∧ ∀ {E : Env} {ob : Store} {μ : Mu} {w : World} {v : Value}, VR E ob μ w x v → VR E ob μ w (mkRX l y).1 v
  | [], _, _, _, h => by simp [unRX] at h
  | [a], _, _, _, h => unRO_sound h
  | a :: b :: l, x, ob, k, h => by
    rw [unRX] at h
    split at h
    · obtain ⟨y, h1, h2, h3⟩ := unRO_sound h
      exact ⟨.inl y, h1, h2, h3⟩
    · obtain ⟨y, h1, h2, h3⟩ := unRX_sound h
      exact ⟨.inr y, h1, h2, h3⟩

/-- a function that is told by a function of its data -/
structure FnK (C : Ctx) (M : Masks) (LP : Loops) (fr : List (Option Ty)) (fn : Func) where
  sh : List SD
  osh : OSh
  rs : RSh
  X : Type
  inX : X → RX rs
  outX : RX rs → X
  go : {R : Type} → X → (AV → Store → Option R) → Option R
  hgo : ∀ (R : Type) (x : X) (k : AV → Store → Option R), go x k = k (mkRX rs (inX x)).1 (mkRX rs (inX x)).2
  hio : ∀ y, inX (outX y) = y
  pre : LD sh → OLD osh → Prop
  S : LD sh → OLD osh → X
  F : {R : Type} → (X → Option R) → LD sh → OLD osh → Option R
  hn : nodupB (osh.map (·.1)) = true
  hF : ∀ (R : Type) (k : X → Option R) (d : LD sh) (o : OLD osh),
    runFn C M LP fr fn R 0 (mkL sh d) (mkOL osh o) (fun x ob => unRX rs x ob fun y => k (outX y)) = F k d o
  hS : ∀ d o, okL sh d → okOL osh o → pre d o → ∀ (R : Type) (k : X → Option R), F k d o = k (S d o)

noncomputable def FnK.G {M : Masks} {LP : Loops} {fr : List (Option Ty)} {fn : Func} (L : FnK C M LP fr fn) : Callee := fun _ _ xs ob k =>
  unArgs L.sh xs fun d => unOL L.osh ob fun o => need (L.pre d o) (L.go (L.S d o) k)

theorem Store.Le.privN {s s' : Store} (h : Store.Le s s') (μ : Mu) (n b : Nat) : PrivN s μ n b ↔ PrivN s' μ n b :=
  ⟨fun ⟨_, x, h1, h2, h3⟩ => let ⟨o', h4, _⟩ := h.get h1; ⟨o', x, h4, h2, h3⟩, fun ⟨_, x, h1, h2, h3⟩ => let ⟨o', h4, _⟩ := h.get' h1; ⟨o', x, h4, h2, h3⟩⟩
theorem callEnv_le {s s' : Store} (h : Store.Le s s') (w : World) (μ : Mu) (A : Nat → Prop) : callEnv w s μ A = callEnv w s' μ A := by
  unfold callEnv
  congr 1
  · funext j b; exact propext (h.privN μ j b)
  · funext j
    cases hg : s.get j with
    | none =>
      cases hg' : s'.get j with
      | none => rfl
      | some o' => obtain ⟨o, h1, _⟩ := h.get' hg'; rw [hg] at h1; cases h1
    | some o =>
      obtain ⟨o', h1, h2⟩ := h.get hg
      rw [h1]
      cases h2 <;> cases μ.addr j <;> rfl
theorem ArgsR.move {E E' : Env} {ob ob' : Store} {μ μ' : Mu} {w w' : World} (m : Moves E ob μ w E' ob' μ' w') : ∀ {xs : List AV} {vs : List Value},
    (∀ n, Keeps ob μ ob' μ' n) → ArgsR E ob μ w xs vs → ArgsR E' ob' μ' w' xs vs
  | _, _, _, .nil => .nil
  | _, _, hk, .cons hx ha => .cons (hx.move m fun n _ => hk n) (ha.move m hk)

theorem ArgsR.okL {E : Env} {ob : Store} {μ : Mu} {w : World} : ∀ {l : List SD} {d : LD l} {vs : List Value}, ArgsR E ob μ w (mkL l d) vs → okL l d
  | [], _, _, _ => trivial
  | s :: l, d, _, h => by
    rw [mkL] at h
    cases h with
    | cons hx ha => exact ⟨VR.okS hx, ha.okL⟩

theorem FnK.sound (hC : CtxOK P C) {M : Masks} {LP : Loops} {fr : List (Option Ty)} {fn : Func} (L : FnK C M LP fr fn) {f : FuncId} (hf : P.funcs[f]? = some fn)
    (hL : ∀ c, fn.body = some c → LOK P LP c) : Sound P f L.G := by
  intro Rr n xs ob k r h
  obtain ⟨d, h1, h2⟩ := unArgs_sound h
  obtain ⟨o, hle, h3⟩ := unOL_sound h1
  obtain ⟨hp, h4⟩ := need_some h3
  rw [L.hgo] at h4
  refine ⟨_, _, h4, fun w μ A vs hR ha => ?_⟩
  have hR' := hR.le hle
  have ha' := (h2 ha).move hle.sub.moves fun n => hle.keeps μ n
  rw [← callEnv_le hle] at hR' ha' ⊢
  have e1 := L.hS d o ha'.okL (okOL_of (nodupB_iff L.hn) hR'.objs) hp _ fun x => some (L.inX x)
  rw [← L.hF] at e1
  obtain ⟨x, ob', h5, h6⟩ := runFn_sound hC hf M fr hL _ _ _ _ _ e1
  obtain ⟨y, h7, h9, h8⟩ := unRX_sound h5
  rw [L.hio] at h7
  obtain rfl := Option.some.inj h7
  refine Calls.mono (h6 w μ A vs hR' ha') ?_
  rintro e w' ⟨v, μ', rfl, h11, h12⟩
  exact ⟨v, μ', rfl, h11.le h9, (h8 h12).move h9.sub.moves fun n _ => h9.keeps μ' n⟩

/-! ### the pieces of a code that are shown by themselves -/
def subs (LP : Loops) : Code → List (Bool × Code × LoopC)
  | .seq a b => subs LP a ++ (match joinOf LP b with
    | some G => [(true, b, G)]
    | none => subs LP b)
  | .cond _ a b => subs LP a ++ subs LP b
  | .block _ c => subs LP c
  | .loop c => match (firstRegion c).bind LP with
    | some G => [(false, c, G)]
    | none => subs LP c
  | _ => []
def SubS (P : Program) : Bool × Code × LoopC → Prop
  | (true, c, G) => CodeS P c G
  | (false, c, G) => LoopS P c G
theorem LOK_of {LP : Loops} : ∀ {c : Code}, (∀ x ∈ subs LP c, SubS P x) → LOK P LP c := by
  intro c
  induction c with
  | seq a b iha ihb =>
    intro h
    rw [LOK]
    simp only [subs, List.mem_append] at h
    refine ⟨iha fun x hx => h x (.inl hx), ?_⟩
    split
    · rename_i G hG; exact h (true, b, G) (.inr (by rw [hG]; simp))
    · rename_i hG; exact ihb fun x hx => h x (.inr (by rw [hG]; exact hx))
  | cond t a b iha ihb =>
    intro h
    simp only [subs, List.mem_append] at h
    exact ⟨iha fun x hx => h x (.inl hx), ihb fun x hx => h x (.inr hx)⟩
  | block id c ih => intro h; exact ih h
  | loop c ih =>
    intro h
    rw [LOK]
    simp only [subs] at h
    split
    · rename_i G hG; exact h (false, c, G) (by rw [hG]; simp)
    · rename_i hG; exact ih fun x hx => h x (by rw [hG]; exact hx)
  | _ => intro _; trivial
def AllS (P : Program) : List (Bool × Code × LoopC) → Prop
  | [] => True
  | x :: l => SubS P x ∧ AllS P l
theorem AllS.mem : ∀ {l : List (Bool × Code × LoopC)}, AllS P l → ∀ x ∈ l, SubS P x
  | _ :: _, h, x, hx => by
    rcases List.mem_cons.1 hx with rfl | hx
    · exact h.1
    · exact h.2.mem x hx
theorem LOK_list {LP : Loops} {c : Code} {l : List (Bool × Code × LoopC)} (he : subs LP c = l) (h : AllS P l) : LOK P LP c := LOK_of fun x hx => h.mem x (he ▸ hx)
theorem body_LOK {LP : Loops} {fn : Func} (h : LOK P LP (fn.body.getD .skip)) : ∀ c, fn.body = some c → LOK P LP c := fun c hc => by rw [hc] at h; exact h

end
end Go.Eng

/- The engine, part 34: the type table of a given program. -/
namespace Go.Eng

def elemThere (P : Program) (T : TypeId) : Bool :=
  match P.underlying T with
  | some (.slice e) => (P.info? e).isSome
  | _ => true
/-- a type's data type, where the program's table bears it out -/
def tyT (P : Program) (T : TypeId) : Option Ty :=
  match tyOf P 12 T with
  | some t => if tokB P t T = true ∧ elemThere P T = true then some t else none
  | none => none
theorem tyT_some {P : Program} {T : TypeId} {t : Ty} (h : tyT P T = some t) : tokB P t T = true ∧ elemThere P T = true := by
  unfold tyT at h
  split at h
  · split at h
    · rename_i h1
      obtain rfl := Option.some.inj h
      exact h1
    · cases h
  · cases h

theorem ctxT_of {P : Program} {C : Ctx} (h : 64 ≤ P.depth) (hm : P.follows .mixedOrders = true) (hT : ∀ T t, C.TT T = some t → tyT P T = some t) (hE : ∀ T t, C.TT T = some t → C.EB T = elemBytes P T) : CtxT P C where
  tt := fun T t ht => tokB_tok (tyT_some (hT T t ht)).1
  eb := fun T t e ht hu => by
    rw [hE T t ht]
    have h1 := (tyT_some (hT T t ht)).2
    unfold elemThere at h1
    rw [hu] at h1
    simp only at h1
    cases hi : P.info? e with
    | none => simp [hi] at h1
    | some i => simp [elemBytes, hu, Program.bytesOf, hi]
  depth := h
  mixed := hm

/-- tables of types: as lists -/
def tabT (l : List (Option Ty)) (T : Nat) : Option Ty := l.getD T none
def tabB (P : Program) (l : List (Option Ty)) (e : List Nat) : Bool :=
  decide (64 ≤ P.depth) && P.follows .mixedOrders && (List.range l.length).all fun T => match l.getD T none with
    | some t => decide (tyT P T = some t) && e.getD T 0 == elemBytes P T
    | none => true
theorem ctxT_tab {P : Program} {C : Ctx} {l : List (Option Ty)} {e : List Nat} (h : tabB P l e = true) (hT : C.TT = tabT l) (hE : C.EB = fun T => e.getD T 0) : CtxT P C := by
  simp only [tabB, Bool.and_eq_true, decide_eq_true_eq, List.all_eq_true, List.mem_range] at h
  have key : ∀ T t, C.TT T = some t → tyT P T = some t ∧ e.getD T 0 = elemBytes P T := by
    intro T t ht
    rw [hT] at ht
    by_cases hl : T < l.length
    · have h2 := h.2 T hl
      unfold tabT at ht
      rw [ht] at h2
      simpa using h2
    · unfold tabT at ht
      simp [List.getD, List.getElem?_eq_none (Nat.le_of_not_lt hl)] at ht
  exact ctxT_of h.1.1 h.1.2 (fun T t ht => (key T t ht).1) (fun T t ht => by rw [hE]; exact (key T t ht).2)

end Go.Eng

/- The engine, part 35: the loops of a function's code. -/
namespace Go.Eng

/-- the code of a loop, without its own 'loop', by its first region -/
def getLoop? (id : Nat) : Code → Option Code
  | .seq a b | .cond _ a b => match getLoop? id a with
    | some c => some c
    | none => getLoop? id b
  | .block _ c | .scope c => getLoop? id c
  | .loop c => if firstRegion c = some id then some c else getLoop? id c
  | _ => none
/-- the code behind a statement, by its first region -/
def getJoin? (id : Nat) : Code → Option Code
  | .seq a b => match getJoin? id a with
    | some c => some c
    | none => if firstRegion b = some id then some b else getJoin? id b
  | .cond _ a b => match getJoin? id a with
    | some c => some c
    | none => getJoin? id b
  | .block _ c | .scope c | .loop c => getJoin? id c
  | _ => none
def getJoin (f : Func) (id : Nat) : Code := ((f.body.bind (getJoin? id))).getD .skip
def getLoop (f : Func) (id : Nat) : Code := ((f.body.bind (getLoop? id))).getD .skip


/-! ### tables -/
def maskOf (l : List (Nat × Nat × List Nat)) : Masks := fun k => (l.find? fun p => p.1 == k).map (·.2)
def noLoops : Loops := fun _ => none
def addL (L : Loops) (id : Nat) (G : LoopC) : Loops := fun k => if k = id then some G else L k
def addF (C : Ctx) (f : Nat) (G : Callee) : Ctx := { C with CT := fun k => if k = f then some G else C.CT k }
theorem CtxOK.add {P : Program} {C : Ctx} (h : CtxOK P C) {f : Nat} {G : Callee} (hs : Sound P f G) (fn : Func) (h1 : P.funcs[f]? = some fn)
    (h2 : (fn.name == "runtime.NumGoroutine") = false) (h3 : fn.body.isNone = false) : CtxOK P (addF C f G) where
  tt := h.tt
  eb := h.eb
  depth := h.depth
  mixed := h.mixed
  ct := fun k G' hk => by
    simp only [addF] at hk
    split at hk
    · rename_i he; subst he; obtain rfl := Option.some.inj hk; exact ⟨hs, fn, h1, h2, h3⟩
    · exact h.ct k G' hk
theorem CtxOK.of {P : Program} {C : Ctx} (h : CtxT P C) (hc : ∀ k, C.CT k = none) : CtxOK P C where
  tt := h.tt
  eb := h.eb
  depth := h.depth
  mixed := h.mixed
  ct := fun k G' hk => by rw [hc] at hk; cases hk

/-! ### words of the printed texts -/
def lett {α β : Type} (v : α) (f : α → β) : β := f v
abbrev wi64 (n : Int) : Int := IntKind.wrap .i64 n
abbrev wi32 (n : Int) : Int := IntKind.wrap .i32 n
abbrev wi16 (n : Int) : Int := IntKind.wrap .i16 n
abbrev wi8 (n : Int) : Int := IntKind.wrap .i8 n
abbrev wu64 (n : Int) : Int := IntKind.wrap .u64 n
abbrev wu32 (n : Int) : Int := IntKind.wrap .u32 n
abbrev wu16 (n : Int) : Int := IntKind.wrap .u16 n
abbrev wu8 (n : Int) : Int := IntKind.wrap .u8 n

end Go.Eng

/- The engine, part 36: a law's arguments, read as data, are the engine's data; a law that answers true. -/
namespace Go.Eng

/-- types of arguments: no pointers, no slices of nothing -/
def Ty.okArg : Ty → Bool
  | .int _ | .bool | .str | .unit => true
  | .sl t => t.okArg && decide (0 < t.size)
  | .arr _ t => t.okArg
  | .pair a b => a.okArg && b.okArg
  | .opq _ => false
def argSD (t : Ty) : SD := .v t.flat t

theorem exists_list {α : Type} {Q : Nat → α → Prop} : ∀ n, (∀ i, i < n → ∃ d, Q i d) → ∃ l : List α, l.length = n ∧ ∀ i (h : i < l.length), Q i l[i]
  | 0, _ => ⟨[], rfl, fun i h => by simp at h⟩
  | n + 1, h => by
    obtain ⟨l, h1, h2⟩ := exists_list n fun i hi => h i (by omega)
    obtain ⟨d, hd⟩ := h n (by omega)
    refine ⟨l ++ [d], by simp [h1], fun i hi => ?_⟩
    by_cases hc : i < l.length
    · rw [List.getElem_append_left hc]; exact h2 i hc
    · have : i = n := by simp at hi; omega
      subst this
      rw [List.getElem_append_right (by omega)]
      simpa [h1] using hd

section
variable {H : Type} {enc : TypeId × Value → H} {P : Program} {W : World} {spare : Nat → Bool} {held : Bool}

theorem TOK.cellsOf {t : Ty} {T : TypeId} (h : TOK P t T) : P.cellsOf T = t.size := by
  obtain ⟨i, z, hi, hs, _⟩ := h.head
  simp [Program.cellsOf, hi, hs]
theorem cell_there {a : Addr} {v : Value} (h : W.cell? a = some v) : a.spot = none ∧ a.block < W.heap.size := by
  unfold World.cell? at h
  split at h
  · rename_i c e fz hb
    refine ⟨?_, (Array.getElem?_eq_some_iff.1 hb).1⟩
    cases hs : a.spot with
    | none => rfl
    | some s => simp [hs] at h
  · cases h
theorem cells_there {a : Addr} {n : Nat} {cs : List Value} (h : W.cells? 0 a n = some cs) (hn : 0 < n) : a.spot = none ∧ a.block < W.heap.size ∧ CellsAt W a.block a.off cs := by
  obtain ⟨_, h1, h2⟩ := World.cells?_some h
  have h0 := h2 0 hn
  rw [List.getElem?_eq_getElem (by omega)] at h0
  have h3 : a.add 0 = a := by simp [Addr.add]
  rw [h3] at h0
  obtain ⟨s1, s2⟩ := cell_there h0
  refine ⟨s1, s2, fun j hj => ?_⟩
  have h4 := h2 j (by omega)
  rw [add_of s1, List.getElem?_eq_getElem hj] at h4
  exact h4

theorem wf_ok {k : IntKind} {n : Int} (h : (Lit.int k n).wf = true) : ok k n := by
  simpa [Lit.wf, ok, IntKind.has] using h

theorem trod_R_F : ∀ (t : Ty), (∀ {T : TypeId} {fuel : Nat} {cs : List Value} {x : DataW H × List MemPlace}, t.okArg = true → TOK P t T → DataW.trod enc P W 0 spare held fuel T cs = some x →
      ∃ d : t.D, R W (fun b => b < W.heap.size) t d cs) ∧
    (∀ {r : List Field} {o n : Nat} {cs : List Value}, t.okArg = true → FOK P t r o → (∀ f ∈ r, ∃ y, DataW.trod enc P W 0 spare held n f.type ((cs.drop f.offset).take (P.cellsOf f.type)) = some y) →
      cs.length = o + t.size → ∃ d : t.D, R W (fun b => b < W.heap.size) t d (cs.drop o)) := by
  intro t
  induction t with
  | int k =>
    refine ⟨fun _ h hx => ?_, fun _ h => by simp [FOK] at h⟩
    simp only [TOK] at h
    obtain ⟨n, rfl, _, hw⟩ := DataW.trod_int h.2 hx
    exact ⟨n, by simp only [R]; exact ⟨trivial, wf_ok hw⟩⟩
  | bool =>
    refine ⟨fun _ h hx => ?_, fun _ h => by simp [FOK] at h⟩
    simp only [TOK] at h
    obtain ⟨b, rfl, _⟩ := DataW.trod_bool h.2 hx
    exact ⟨b, by simp only [R]⟩
  | str =>
    refine ⟨fun _ h hx => ?_, fun _ h => by simp [FOK] at h⟩
    simp only [TOK] at h
    obtain ⟨s, rfl, _⟩ := DataW.trod_string h.2 hx
    exact ⟨s, by simp only [R]⟩
  | sl t ih =>
    refine ⟨fun ha h hx => ?_, fun _ h => by simp [FOK] at h⟩
    simp only [Ty.okArg, Bool.and_eq_true, decide_eq_true_eq] at ha
    simp only [TOK] at h
    obtain ⟨_, e, hu, he⟩ := h
    rcases DataW.trod_slice hu hx with ⟨rfl, _⟩ | ⟨a, len, cap, elems, rest, n, _, rfl, _, _, hl, hm, hlen, hel, _, _⟩
    · exact ⟨[], by simp only [R]; exact ⟨none, 0, rfl, Nat.le_refl _, Nat.zero_le _, fun _ => rfl, fun x hx => by cases hx⟩⟩
    · have hc := he.cellsOf
      have each : ∀ i, i < len → ∃ d : t.D, ∃ es, R W (fun b => b < W.heap.size) t d es ∧ W.cells? 0 (a.add (i * t.size)) t.size = some es := by
        intro i hi
        have h1 := hel i hi
        rw [List.getElem?_eq_getElem (by omega), Option.bind_eq_some_iff, hc] at h1
        obtain ⟨es, h2, h3⟩ := h1
        obtain ⟨d, hd⟩ := ih.1 ha.1 he h3
        exact ⟨d, es, hd, h2⟩
      obtain ⟨l, h1, h2⟩ := exists_list len each
      have hmax : maxLen ≤ maxI := by decide
      refine ⟨l, ?_⟩
      simp only [R]
      refine ⟨some a, cap, by rw [h1], by omega, by omega, fun hh => (by cases hh), fun x hx hpos => ?_⟩
      obtain rfl := Option.some.inj hx
      obtain ⟨es0, _, h4⟩ := h2 0 hpos
      rw [show a.add (0 * t.size) = a by simp [Addr.add]] at h4
      obtain ⟨s1, s2, _⟩ := cells_there h4 ha.2
      refine ⟨s1, s2, s2, fun i hi => ?_⟩
      obtain ⟨es, h5, h6⟩ := h2 i hi
      rw [add_of s1] at h6
      exact ⟨es, h5, (cells_there h6 ha.2).2.2⟩
  | arr m t ih =>
    refine ⟨fun ha h hx => ?_, fun _ h => by simp [FOK] at h⟩
    simp only [Ty.okArg] at ha
    simp only [TOK] at h
    obtain ⟨hh, e, hu, he⟩ := h
    have hc := he.cellsOf
    rename_i T fuel cs x
    have hT : P.cellsOf T = m * t.size := by obtain ⟨i, z, hi, hs, _⟩ := hh; simp [Program.cellsOf, hi, hs]
    obtain ⟨xs, n, _, _, hlen, hxl, hall⟩ := DataW.trod_array hu hx
    have key : cs.length = m * t.size ∧ ∀ i, i < m → ∃ y, DataW.trod enc P W 0 spare held n e ((cs.drop (i * t.size)).take t.size) = some y :=
      ⟨by rw [hlen, hT], fun i hi => ⟨xs[i], by have h1 := hall i hi; rw [hc] at h1; exact h1.trans (List.getElem?_eq_getElem (by omega))⟩⟩
    obtain ⟨l, h1, h2⟩ := exists_list (Q := fun i d => R W (fun b => b < W.heap.size) t d ((cs.drop (i * t.size)).take t.size)) m fun i hi => by
      obtain ⟨y, hy⟩ := key.2 i hi
      exact ih.1 ha he hy
    exact ⟨l, by simp only [R]; exact ⟨h1, key.1, h2⟩⟩
  | unit =>
    refine ⟨fun _ h hx => ?_, fun _ h _ hl => ?_⟩
    · have hc := h.cellsOf
      simp only [TOK] at h
      obtain ⟨_, _, fs, hu, _⟩ := h
      obtain ⟨xs, n, _, _, hlen, _⟩ := DataW.trod_struct hu hx
      rw [hc] at hlen
      exact ⟨(), by simp only [R]; exact List.eq_nil_of_length_eq_zero hlen⟩
    · simp only [Ty.size, Nat.add_zero] at hl
      exact ⟨(), by simp only [R]; rw [List.drop_eq_nil_of_le (by omega)]⟩
  | pair a b iha ihb =>
    refine ⟨fun ha h hx => ?_, fun ha h hf hl => ?_⟩
    · simp only [Ty.okArg, Bool.and_eq_true] at ha
      have hc := h.cellsOf
      simp only [TOK] at h
      obtain ⟨_, _, fs, f, r, hu, hfs, h0, _, h1, h2⟩ := h
      obtain ⟨xs, n, _, _, hlen, hxl, hall⟩ := DataW.trod_struct hu hx
      have all : ∀ g ∈ f :: r, ∃ y, DataW.trod enc P W 0 spare held n g.type ((‹List Value›.drop g.offset).take (P.cellsOf g.type)) = some y := by
        intro g hg
        rw [← hfs] at hg
        obtain ⟨i, hi⟩ := List.getElem?_of_mem hg
        have h3 := hall i g (by simpa using hi)
        have h4 : i < xs.length := by rw [hxl]; simpa using (List.getElem?_eq_some_iff.1 hi).1
        exact ⟨_, h3.trans (List.getElem?_eq_getElem h4)⟩
      obtain ⟨y, hy⟩ := all f (by simp)
      rw [h0, List.drop_zero, h1.cellsOf] at hy
      obtain ⟨d1, e1⟩ := iha.1 ha.1 h1 hy
      obtain ⟨d2, e2⟩ := ihb.2 ha.2 h2 (fun g hg => all g (by simp [hg])) (by rw [hlen, hc]; rfl)
      exact ⟨(d1, d2), by simp only [R]; exact ⟨e1, e2⟩⟩
    · simp only [Ty.okArg, Bool.and_eq_true] at ha
      simp only [FOK] at h
      obtain ⟨f, r', rfl, ho, _, h1, h2⟩ := h
      obtain ⟨y, hy⟩ := hf f (by simp)
      rw [ho, h1.cellsOf] at hy
      obtain ⟨d1, e1⟩ := iha.1 ha.1 h1 hy
      obtain ⟨d2, e2⟩ := ihb.2 ha.2 h2 (fun g hg => hf g (by simp [hg])) (by rw [hl]; simp only [Ty.size]; omega)
      refine ⟨(d1, d2), ?_⟩
      simp only [R]
      refine ⟨e1, ?_⟩
      rw [List.drop_drop]
      exact e2
  | opq k => exact ⟨fun ha => by simp [Ty.okArg] at ha, fun ha => by simp [Ty.okArg] at ha⟩

theorem cellOk_one {base : Nat} {r : Reach} {T : TypeId} {v : Value} (h : Cell.okWide P W r base T v) : v.cells = #[v] := by
  cases v with
  | agg cs =>
    unfold Cell.okWide Cell.ok at h
    split at h <;> simp_all
  | _ => rfl
theorem shape_of {t : Ty} {T : TypeId} {v : Value} {base : Nat} {r : Reach} (h : TOK P t T) (hw : Value.okWide P W r base T v) : Shape t v := by
  unfold Value.okWide at hw
  cases t with
  | int | bool | str => simp only [TOK] at h; rw [h.2] at hw; exact ⟨fun h => by simp [Ty.isAgg] at h, fun _ => cellOk_one hw⟩
  | sl t => simp only [TOK] at h; obtain ⟨_, e, hu, _⟩ := h; rw [hu] at hw; exact ⟨fun h => by simp [Ty.isAgg] at h, fun _ => cellOk_one hw⟩
  | arr n t => simp only [TOK] at h; obtain ⟨_, e, hu, _⟩ := h; rw [hu] at hw; obtain ⟨cs, h1, _⟩ := hw; exact ⟨fun _ => ⟨cs, h1⟩, fun h => by simp [Ty.isAgg] at h⟩
  | unit => simp only [TOK] at h; obtain ⟨_, _, fs, hu, _⟩ := h; rw [hu] at hw; obtain ⟨cs, h1, _⟩ := hw; exact ⟨fun _ => ⟨cs, h1⟩, fun h => by simp [Ty.isAgg] at h⟩
  | pair a b => simp only [TOK] at h; obtain ⟨_, _, fs, f, r, hu, _⟩ := h; rw [hu] at hw; obtain ⟨cs, h1, _⟩ := hw; exact ⟨fun _ => ⟨cs, h1⟩, fun h => by simp [Ty.isAgg] at h⟩
  | opq k =>
    simp only [TOK] at h
    obtain ⟨_, d, hu, hd⟩ := h
    rw [hu] at hw
    cases k <;> cases d <;> simp [opqDesc] at hd <;> exact ⟨fun h => by simp [Ty.isAgg] at h, fun _ => cellOk_one hw⟩

/-- types of a law's arguments -/
def tokL (P : Program) : List Ty → List TypeId → Bool
  | [], [] => true
  | t :: ts, T :: Ts => t.okArg && tokB P t T && tokL P ts Ts
  | _, _ => false

theorem trodAll_args {μ : Mu} {base : Nat} : ∀ {ts : List Ty} {Ts : List TypeId} {vs : List Value} {ds : List (DataW H)} {p : List MemPlace}, tokL P ts Ts = true →
    DataW.TrodAll enc P W 0 spare held Ts vs ds p → (∀ (j : Nat) T v, Ts[j]? = some T → vs[j]? = some v → Value.okWide P W .any base T v) →
    ∃ d : LD (ts.map argSD), ArgsR (callEnv W [] μ fun _ => True) [] μ W (mkL (ts.map argSD) d) vs
  | [], [], [], _, _, _, _, _ => ⟨(), .nil⟩
  | t :: ts, T :: Ts, v :: vs, d :: ds, p, ht, hA, hv => by
    simp only [tokL, Bool.and_eq_true] at ht
    obtain ⟨⟨h1, h2⟩, h3⟩ := ht
    obtain ⟨p1, p2, ⟨fuel, hx⟩, hA', _⟩ := hA
    have htok := tokB_tok h2
    obtain ⟨d1, e1⟩ := (trod_R_F t).1 h1 htok hx
    obtain ⟨d2, e2⟩ := trodAll_args (μ := μ) (base := base) h3 hA' fun j T v hT hv' => hv (j + 1) T v (by simpa using hT) (by simpa using hv')
    refine ⟨(d1, d2), .cons (VR.v_iff.2 ⟨?_, shape_of htok (hv 0 T v rfl rfl)⟩) e2⟩
    have hs : R W (Sb (callEnv W [] μ fun _ => True) [] μ false) t d1 v.cells.toList := e1.sub fun b hb _ =>
      ⟨fun ⟨_, _, _, h, _⟩ => by simp [Store.get] at h, fun ⟨_, _, _, h, _⟩ => by simp [Store.get] at h, fun _ => ⟨rfl, trivial⟩⟩
    cases hf : t.flat with
    | true => exact hs.ofFlat hf
    | false => exact hs
  | [], [], _ :: _, _, _, _, hA, _ => by cases hA
  | [], _ :: _, _, _, _, ht, _, _ => by simp [tokL] at ht
  | _ :: _, [], _, _, _, ht, _, _ => by simp [tokL] at ht
  | _ :: _, _ :: _, [], _, _, _, hA, _ => by cases hA
  | _ :: _, _ :: _, _ :: _, [], _, _, hA, _ => by cases hA

theorem unA_mk {R : Type} : ∀ (s : SD) (d : s.D) (k : s.D → Option R), unA s (mkA s d) k = k d := by
  intro s
  induction s with
  | v g t => intro d k; cases g <;> simp [mkA, unA]
  | pr g t => intro d k; cases g <;> simp [mkA, unA]
  | cons a b iha ihb => intro d k; simp only [mkA, unA, iha, ihb]
  | ag a ih => intro d k; simp only [mkA, unA, ih]
  | _ => intro d k; simp [mkA, unA]
theorem unArg_mk {R : Type} (s : SD) (d : s.D) (k : s.D → Option R) : unArg s (mkA s d) k = k d := by
  cases s with
  | v g t => simp only [unArg, mkA, AV.isNils, Bool.false_eq_true, if_false]; exact unA_mk (.v g t) d k
  | _ => exact unA_mk _ d k
theorem unArgs_mk {R : Type} : ∀ (l : List SD) (d : LD l) (k : LD l → Option R), unArgs l (mkL l d) k = k d
  | [], _, _ => rfl
  | s :: l, d, k => by simp only [mkL, unArgs, unArg_mk, unArgs_mk]

/-- a law's run: it answers true, and leaves what was there -/
theorem law_calls {f : FuncId} {G : Callee} (hs : Sound P f G) {ts : List Ty} {Ts : List TypeId} (ht : tokL P ts Ts = true)
    (hG : ∀ d : LD (ts.map argSD), okL (ts.map argSD) d → G (AV × Store) 0 (mkL (ts.map argSD) d) [] (fun x ob => some (x, ob)) = some (.v true .bool true, []))
    {base : Nat} {vs : Array Value} {ds : List (DataW H)} {p : List MemPlace} (hA : DataW.TrodAll enc P W 0 spare held Ts vs.toList ds p)
    (hv : ∀ (j : Nat) T v, Ts[j]? = some T → vs[j]? = some v → Value.okWide P W .any base T v) :
    Calls P f vs W fun e W' => e = .returned (.bool true) ∧ Go.RowKit.Below W.heap.size W W' := by
  let μ : Mu := ⟨fun _ => none, fun _ => 0⟩
  obtain ⟨d, ha⟩ := trodAll_args (μ := μ) (base := base) ht hA fun j T v h1 h2 => hv j T v h1 (by simpa using h2)
  obtain ⟨x, ob', h1, h2⟩ := hs 0 _ _ _ _ (hG d ha.okL)
  simp only [Option.some.injEq, Prod.mk.injEq] at h1
  obtain ⟨rfl, rfl⟩ := h1
  have hR : Rel (callEnv W [] μ fun _ => True) [] μ W := {
    lent := fun n b h => by obtain ⟨_, _, h, _⟩ := h; simp [Store.get] at h
    size := Nat.le_refl _
    io := Io.refl _
    frame := fun _ _ _ => rfl
    own := fun n o x h => by simp [Store.get] at h
    inj := fun n m o o' x y h => by simp [Store.get] at h
    objs := fun n o h => by simp [Store.get] at h
    keep := fun n x c T h => by simp [callEnv, Store.get] at h }
  refine Calls.mono (h2 W μ (fun _ => True) vs hR ha) ?_
  rintro e W' ⟨v, μ', rfl, h3, h4⟩
  obtain rfl := h4.bool
  exact ⟨rfl, h3.io.1, h3.io.2.2, h3.io.2.1, h3.size, fun k hk => h3.frame k hk fun ⟨_, _, _, h, _⟩ => by simp [Store.get] at h⟩
end
end Go.Eng

/- The engine, part 37: words for proofs about printed trees. -/
namespace Go.Eng

section
variable {R : Type} {Good : Option R → Prop}
theorem gD {p : Prop} [Decidable p] {x y : Option R} (h1 : p → Good x) (h2 : ¬ p → Good y) : Good (if decide p = true then x else y) := by
  by_cases h : p
  · simpa [h] using h1 h
  · simpa [h] using h2 h
theorem gE {a b : Int} {x y : Option R} (h1 : a = b → Good x) (h2 : a ≠ b → Good y) : Good (if (a == b) = true then x else y) := by
  by_cases h : a = b
  · simpa [h] using h1 h
  · simpa [h] using h2 h
theorem gN {a b : Int} {x y : Option R} (h1 : a ≠ b → Good x) (h2 : a = b → Good y) : Good (if (a != b) = true then x else y) := by
  by_cases h : a = b
  · simpa [h] using h2 h
  · simpa [h] using h1 h
theorem gB {b : Bool} {x y : Option R} (h1 : b = true → Good x) (h2 : b = false → Good y) : Good (if b = true then x else y) := by
  cases b
  · simpa using h2 rfl
  · simpa using h1 rfl
theorem gNB {b : Bool} {x y : Option R} (h1 : b = false → Good x) (h2 : b = true → Good y) : Good (if (!b) = true then x else y) := by
  cases b
  · simpa using h1 rfl
  · simpa using h2 rfl
theorem gI {p : Prop} [Decidable p] {x y : Option R} (h1 : p → Good x) (h2 : ¬ p → Good y) : Good (if p then x else y) := by
  by_cases h : p
  · rw [if_pos h]; exact h1 h
  · rw [if_neg h]; exact h2 h
theorem gC {p : Prop} [Decidable p] {x : Option R} (h1 : p) (h2 : p → Good x) : Good (if p then x else none) := by
  rw [if_pos h1]; exact h2 h1
theorem gNone {p : Prop} [Decidable p] {x : Option R} (h1 : ¬ p) (h2 : ¬ p → Good x) : Good (if p then none else x) := by
  rw [if_neg h1]; exact h2 h1
theorem gL {α : Type} {v : α} {f : α → Option R} (h : ∀ x, x = v → Good (f x)) : Good (lett v f) := h v rfl
theorem gNeed {p : Prop} {x : Option R} (h1 : p) (h2 : p → Good x) : Good (need p x) := by rw [need_pos h1]; exact h2 h1
theorem gS {A B : Type} {s : A ⊕ B} {f : A → Option R} {g : B → Option R} (h1 : ∀ a, s = .inl a → Good (f a)) (h2 : ∀ b, s = .inr b → Good (g b)) : Good (caseS s f g) := by
  cases s with
  | inl a => exact h1 a rfl
  | inr b => exact h2 b rfl
end

theorem w64 {x : Int} (h1 : -9223372036854775808 ≤ x) (h2 : x ≤ 9223372036854775807) : wi64 x = x := by
  unfold wi64 IntKind.wrap
  simp [IntKind.bits, IntKind.signed]
  omega
theorem wu8_id {x : Int} (h1 : 0 ≤ x) (h2 : x ≤ 255) : wu8 x = x := by
  unfold wu8 IntKind.wrap
  simp [IntKind.bits, IntKind.signed]
  omega
theorem maxI_eq : maxI = 9223372036854775807 := rfl
theorem room_eq : room = 140737488355328 := rfl
theorem dropAt {α : Type} {l : List α} {i : Int} (h0 : 0 ≤ i) (h1 : i < l.length) (z : α) : l.drop i.toNat = l.getD i.toNat z :: l.drop (i + 1).toNat := by
  have h2 : i.toNat < l.length := by omega
  rw [List.drop_eq_getElem_cons h2, show (i + 1).toNat = i.toNat + 1 by omega]
  simp [List.getD, List.getElem?_eq_getElem h2]
theorem okSl {t : Ty} {l : List t.D} (h : okT (.sl t) l) : (l.length : Int) ≤ 9223372036854775807 := by
  have := h.1; rw [maxI_eq] at this; omega
theorem okInt {n : Int} (h : okT (.int .i64) n) : -9223372036854775808 ≤ n ∧ n ≤ 9223372036854775807 := by
  have : ok .i64 n := h
  unfold ok IntKind.min IntKind.max at this
  simp [IntKind.bits, IntKind.signed] at this
  omega
theorem okByte {n : Int} (h : okT (.int .u8) n) : 0 ≤ n ∧ n ≤ 255 := by
  have : ok .u8 n := h
  unfold ok IntKind.min IntKind.max at this
  simp [IntKind.bits, IntKind.signed] at this
  omega
end Go.Eng

/- The engine, part 38: slices.Clone and its like: a test for nil, which data cannot answer, then a copy. -/
namespace Go.Eng

section
variable {P : Program} {C : Ctx}

def noMasks : Masks := fun _ => none
/-- the contract of a copy: a fresh array of the same elements -/
noncomputable def cloneG (t : Ty) (g : Bool) (eb : Nat) : Callee := fun _ _ xs ob k =>
  unArgs [.v g (.sl t)] xs fun d => unOL [] ob fun _ => need (d.1.length * eb ≤ room) (k (.sl 0) [(0, .arr (g || t.flat) t d.1)])

def initSt (n : Nat) (x : AV) : St := { sl := [x] ++ List.replicate (n - 1) .dead, ob := [] }
def leaveE {R : Type} (C : Ctx) (fn : Func) (k : AV → Store → Option R) : Ex → St → Option R := fun e st => match e with
  | .exit _ => none
  | _ => leaveK C [none] 0 st fn.results.toList k

def leaveR {R : Type} (C : Ctx) (fn : Func) (k : AV → Store → Option R) : Ex → St → Option R := fun e st => match e with
  | .ret => leaveK C [none] 0 st fn.results.toList k
  | _ => none

structure CloneK (C : Ctx) (fn : Func) (t : Ty) (g : Bool) (eb : Nat) where
  R0 : Code
  A : Code
  B : Code
  id1 : Nat
  o0 : Oper
  o1 : Oper
  T : TypeId
  T' : TypeId
  hbody : fn.body = some (.seq R0 (.seq (.seq (.region id1 #[o0, o1] false) (.cond (.tmp 4) A .skip)) B))
  h0 : o0.guard = none
  h1 : o1.op = .binOp .eql T (.tmp 3) (.const (.slice none 0 0)) T' ∧ o1.dst = some 4 ∧ o1.guard = none
  hT : C.TT T = some (.sl t)
  hl0 : subs noLoops R0 = []
  hlA : subs noLoops A = []
  hlB : subs noLoops B = []
  s2 : List t.D → St
  hs2 : ∀ l, 4 < (s2 l).sl.length
  h2 : ∀ (R : Type) (k : St → Option R) (l : List t.D),
    exec C 0 noMasks noLoops R0 (initSt fn.ntmps (.v g (.sl t) l)) (fun e st1 => match e with
      | .normal => opK C 0 st1 o0 fun x st2 => k (st2.set o0.dst x.norm)
      | _ => none) = k (s2 l)
  ev3 : ∀ l, (s2 l).ev (.tmp 3) = .v g (.sl t) l
  hA : ∀ (R : Type) (k : AV → Store → Option R) (l : List t.D),
    exec C 0 noMasks noLoops A ((s2 l).set (some 4) .dead) (leaveR C fn k) = k (.sl 0) [(0, .arr true t [])]
  hB : ∀ (R : Type) (k : AV → Store → Option R) (l : List t.D),
    exec C 0 noMasks noLoops B ((s2 l).set (some 4) .dead) (leaveE C fn k) = if 0 < eb ∧ (0 + l.length) * eb ≤ room then k (.sl 0) [(0, .arr (g || t.flat) t l)] else none

theorem initSt_StR {fn : Func} {w : World} {μ : Mu} {A : Nat → Prop} {x : AV} {vs : Array Value} (hR : Rel (callEnv w [] μ A) [] μ w) (ha : ArgsR (callEnv w [] μ A) [] μ w [x] vs.toList) :
    StR (callEnv w [] μ A) (initSt fn.ntmps x) μ { tmps := vs ++ Array.replicate (fn.ntmps - vs.size) undef, defers := [] } w := by
  have hl := ha.len
  simp only [Array.length_toList, List.length_singleton] at hl
  refine ⟨hR, ⟨by simp [initSt, ← hl]; omega, fun i hi => ?_⟩, rfl⟩
  unfold initSt at hi ⊢
  simp only at hi ⊢
  by_cases hia : i < [x].length
  · simp only [List.getElem_append_left hia]
    have := argSlots ha i hia
    have hiv : i < vs.size := by simp at hia; omega
    have e1 : (vs ++ Array.replicate (fn.ntmps - vs.size) undef).getD i undef = vs.toList.getD i undef := by
      simp [Array.getD, List.getD, Array.getElem?_eq_getElem hiv, Array.getElem_append_left hiv, show i < vs.size + (fn.ntmps - vs.size) by omega]
    rw [e1]; exact this
  · rw [List.getElem_append_right (by omega)]
    simp only [List.getElem_replicate]
    trivial

theorem nilTest_run {T : TypeId} {t : Ty} (h : TOK P (.sl t) T) (p : Option Addr) (l c : Nat) (xo yo : Operand) (w : World) :
    (do eqGuard .eql T xo yo (.slice p l c) (.slice none 0 0); binOp .eql T (.slice p l c) (.slice none 0 0) : Sem Value).run P w = .ok (.bool p.isNone) w := by
  obtain ⟨e, hu, _⟩ := h.slElem
  have hg : (eqGuard .eql T xo yo (.slice p l c) (.slice none 0 0)).run P w = .ok () w := by simp [eqGuard]
  have h1 : binOp .eql T (.slice p l c) (.slice none 0 0) = (do pure (.bool (← Op.equal T (.slice p l c) (.slice none 0 0)))) := rfl
  simp only [Sem.run_bind, hg, Result.andThen_ok, h1, run_equal_slice_nil w T e p l c hu, Sem.run_pure]

theorem CloneK.sound (hC : CtxOK P C) {f : FuncId} {fn : Func} {t : Ty} {g : Bool} {eb : Nat} (K : CloneK C fn t g eb) (hf : P.funcs[f]? = some fn) (heb : 0 < eb) : Sound P f (cloneG t g eb) := by
  intro Rr n xs ob k r h
  obtain ⟨d, h1, h2⟩ := unArgs_sound h
  obtain ⟨o, hle, h3⟩ := unOL_sound h1
  obtain ⟨hp, h4⟩ := need_some h3
  cases hle
  refine ⟨_, _, h4, fun w μ A vs hR ha => ?_⟩
  have ha' := h2 ha
  rw [mkL, mkL, mkA] at ha'
  have hS := initSt_StR (fn := fn) hR ha'
  refine calls_of_wp hf K.hbody ?_
  generalize hl : d.1 = l at *
  have L0 : LOK P noLoops K.R0 := LOK_list K.hl0 trivial
  have LA : LOK P noLoops K.A := LOK_list K.hlA trivial
  have LB : LOK P noLoops K.B := LOK_list K.hlB trivial
  obtain ⟨e, st1, e1, g1⟩ := exec_sound hC K.R0 L0 (K.h2 St some l)
  cases e with
  | exit => cases e1
  | ret => cases e1
  | normal =>
    obtain ⟨z, st2, e2, g2⟩ := opK_sound hC e1
    have e2 := Option.some.inj e2
    refine wp_seq (g1 hS _ fun μ1 a1 w1 hS1 => ?_)
    refine wp_seq (wp_seq (wp_region ?_))
    have r2 : List.range #[K.o0, K.o1].size = [0, 1] := rfl
    rw [r2]
    have w0 : Region.wanted K.o0 (yielded #[K.o0, K.o1] a1.tmps) = true := by simp [Region.wanted, K.h0]
    simp only [wpOps, List.getElem?_toArray, List.getElem?_cons_zero, w0, if_true]
    refine .inl (g2 μ1 a1 w1 hS1 _ _ fun μ2 v w2 hS2 hz => ?_)
    have hS3 := hS2.set (norm_VR hz) K.o0.dst
    rw [e2] at hS3
    have w1' : Region.wanted K.o1 (yielded #[K.o0, K.o1] (a1.put K.o0.dst v).tmps) = true := by simp [Region.wanted, K.h1.2.2]
    simp only [List.getElem?_cons_succ, List.getElem?_cons_zero, w1', if_true]
    refine .inl ?_
    generalize a1.put K.o0.dst v = a2 at hS3 ⊢
    have hv := hS3.ev (.tmp 3)
    rw [K.ev3] at hv
    obtain ⟨p, cap, hv1, hcap, hmax, hnone, hx⟩ := hv.vsl
    have hop : (execOp a2.eval K.o1).run P w2 = .ok (.value (.bool p.isNone)) w2 := by
      have := nilTest_run (hC.tt _ _ K.hT) p l.length cap (.tmp 3) (.const (.slice none 0 0)) w2
      simp only [execOp, K.h1.1, hv1]
      exact run_v this
    have hd := K.h1.2.1
    unfold Oper.wp
    rw [hop, Oper.upon_value, hd]
    have hS4 : StR _ ((K.s2 l).set (some 4) .dead) μ2 (a2.put (some 4) (.bool p.isNone)) w2 := hS3.set (x := .dead) (v := .bool p.isNone) trivial (some 4)
    have hev : (a2.put (some 4) (.bool p.isNone)).eval (.tmp 4) = .bool p.isNone := by
      have hsz : 4 < a2.tmps.size := by
        have h1 := hS3.slots.1
        have h2 := K.hs2 l
        omega
      simp [Act.put, Act.eval, hsz]
    have fin : ∀ {st3 : St} {g' : Bool}, ((g || t.flat) = true → g' = true) → leaveK C [none] 0 st3 fn.results.toList (fun x ob => some (x, ob)) = some (.sl 0, [(0, .arr g' t l)]) → ∀ {μ3 : Mu} {a3 : Act} {w3 : World},
        StR (callEnv w [] μ A) st3 μ3 a3 w3 → a3.defers = [] ∧ ∃ v, (results fn a3.tmps).run P w3 = .ok v w3 ∧ ∃ v' μ', Ending.returned v = .returned v' ∧ Rel (callEnv w [] μ A) [(0, .arr (g || t.flat) t l)] μ' w3 ∧ VR (callEnv w [] μ A) [(0, .arr (g || t.flat) t l)] μ' w3 (.sl 0) v' := by
      intro st3 g' hg hk μ3 a3 w3 hS5
      obtain ⟨x', ob', k1, k2⟩ := leaveK_sound hC.toCtxT hk
      simp only [Option.some.injEq, Prod.mk.injEq] at k1
      obtain ⟨rfl, rfl⟩ := k1
      obtain ⟨v, μ', k3, k4, k5⟩ := k2 (fun n o ho => by simp [Store.get] at ho) hS5
      have hle : Store.Le [(0, .arr (g || t.flat) t l)] [(0, .arr g' t l)] := .cons 0 (.arr hg t l) .nil
      exact ⟨hS5.defers, v, k3, v, μ', rfl, k4.le hle, k5.move hle.sub.moves fun n _ => hle.keeps μ' n⟩
    refine wp_cond_split hev (fun hb => ?_) (fun hb => ?_)
    · have hpn : p = none := by cases p <;> simp_all
      have hl0 : l = [] := by
        have := hnone hpn
        exact List.eq_nil_of_length_eq_zero (by omega)
      obtain ⟨e3, st3, k1, k2⟩ := exec_sound hC K.A LA (K.hA (AV × Store) (fun x ob => some (x, ob)) l)
      unfold leaveR at k1
      cases e3 with
      | ret =>
        refine k2 hS4 _ fun μ3 a3 w3 hS5 => ?_
        exact fin (g' := true) (fun _ => rfl) (by rw [hl0]; exact k1) hS5
      | normal => cases k1
      | exit id => cases k1
    · refine wp_skip ?_
      have hB := K.hB (AV × Store) (fun x ob => some (x, ob)) l
      rw [if_pos ⟨heb, by rw [Nat.zero_add]; exact hp⟩] at hB
      obtain ⟨e3, st3, k1, k2⟩ := exec_sound hC K.B LB hB
      unfold leaveE at k1
      cases e3 with
      | ret =>
        refine k2 hS4 _ fun μ3 a3 w3 hS5 => ?_
        exact fin (g' := g || t.flat) id k1 hS5
      | normal =>
        refine k2 hS4 _ fun μ3 a3 w3 hS5 => ?_
        exact fin (g' := g || t.flat) id k1 hS5
      | exit id => cases k1

noncomputable def CloneK.G {fn : Func} {t : Ty} {g : Bool} {eb : Nat} (_ : CloneK C fn t g eb) : Callee := cloneG t g eb
end
def cR0 (fn : Func) : Code := match fn.body with | some (.seq a _) => a | _ => .skip
def cB (fn : Func) : Code := match fn.body with | some (.seq _ (.seq _ b)) => b | _ => .skip
def cA (fn : Func) : Code := match fn.body with | some (.seq _ (.seq (.seq _ (.cond _ a _)) _)) => a | _ => .skip
def cId (fn : Func) : Nat := match fn.body with | some (.seq _ (.seq (.seq (.region id _ _) _) _)) => id | _ => 0
def cOps (fn : Func) : Array Oper := match fn.body with | some (.seq _ (.seq (.seq (.region _ ops _) _) _)) => ops | _ => #[]
end Go.Eng

