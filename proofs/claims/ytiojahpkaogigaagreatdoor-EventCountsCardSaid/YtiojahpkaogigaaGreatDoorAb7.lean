/- From a body to a call; a call as an operation; what may be told otherwise. Conditions: none. -/
import Derived.Test.YtiojahpkaogigaaGreatDoorAb6
namespace Go.Ab

def oneOf : List Value → Value
  | [v] => v
  | vs => .tuple vs.toArray

def enterR : Nat → List PV → Regs
  | _, [] => []
  | k, p :: ps => (k, some p) :: enterR (k + 1) ps

theorem enterR.get : ∀ {ps : List PV} {k t : Nat} {p : PV}, lookR (enterR k ps) t = some p → k ≤ t ∧ ps[t - k]? = some p
  | [], k, t, p, h => by simp [enterR, lookR] at h
  | q :: ps, k, t, p, h => by
    simp only [enterR, lookR] at h
    split at h
    · rename_i e; subst e; cases h; simp
    · have := enterR.get h
      refine ⟨by omega, ?_⟩
      rw [show t - k = (t - (k + 1)) + 1 by omega]
      simpa using this.2

def resF (tmps : Array Value) : ResultVar → Sem Value
  | .tmp t => Pure.pure (tmps.getD t undef)
  | .cell a t => do loadVar t (← asAddr (tmps.getD a undef))

theorem results_run {P : Program} {ty : Tys} {m : MemL} {r : Regs} {tmps : Array Value} {w : World} {F : Fz} {ν : Nu} (hst : St F ν (look m) w) (hr : ∀ t p, lookR r t = some p → VR F ν (tmps.getD t undef) p) :
    ∀ (rs : List ResultVar) (ps : List PV), (∀ t y, ResultVar.cell t y ∈ rs → TI P y (ty y).1 (ty y).2) → rs.mapM (resP ty m r) = some ps →
      ∃ vs : List Value, (rs.mapM (resF tmps)).run P w = .ok vs w ∧ VRs F ν vs ps
  | [], ps, _, h => by
    simp only [List.mapM_nil, Option.pure_def, Option.some.injEq] at h; subst h
    exact ⟨[], by simp, by simp [VRs]⟩
  | x :: rs, ps, ht, h => by
    simp only [List.mapM_cons, Option.bind_eq_bind, Option.bind_eq_some_iff, Option.pure_def, Option.some.injEq] at h
    obtain ⟨p, hp, qs, hq, rfl⟩ := h
    obtain ⟨vs, h1, h2⟩ := results_run hst hr rs qs (fun t y hm => ht t y (List.mem_cons_of_mem _ hm)) hq
    have key : ∃ v, (resF tmps x).run P w = .ok v w ∧ VR F ν v p := by
      cases x with
      | tmp t => exact ⟨_, rfl, hr t p hp⟩
      | cell t y =>
        have hti := ht t y (by simp)
        simp only [resP] at hp
        split at hp
        · rename_i id hl
          split at hp
          · rename_i cells hc
            obtain ⟨b, hb, hv⟩ := VR.ptr (hr t _ hl)
            obtain ⟨b', cs, tt, e1, e2, e3, e4, e5⟩ := (hst.ents id _ hc).var
            rw [hb] at e1; injection e1 with e1; injection e1 with e1; injection e1 with e1; subst e1
            have hcell : ∀ j u, cs.toList[j]? = some u → w.cell? ⟨b, 0 + j, none⟩ = some u := fun j u hu => by
              rw [cell_of_row w b _ cs tt _ e2]; simpa using hu
            simp only [resF, hv, asAddr, Sem.run_bind, Sem.run_pure, Result.andThen_ok]
            split at hp
            · rename_i hagg
              split at hp
              · rename_i hlen
                cases hp
                rw [hagg] at hti
                have := run_loadVar hti w b 0 cs.toList (by rw [e4.length, hlen]) (by simp) hcell
                exact ⟨_, this, by simp only [VR, if_true]; exact ⟨cs.toList, rfl, e4⟩⟩
              · cases hp
            · rename_i hagg
              split at hp
              · rename_i q
                cases hp
                have hf : (ty y).1 = false := by simpa using hagg
                rw [hf] at hti
                simp only [VRs] at e4
                obtain ⟨u, us, h3, h4, rfl⟩ := e4
                have h1' : (ty y).2 = 1 ∨ (ty y).2 ≠ 1 := by omega
                have hr1 : (loadVar y ⟨b, 0, none⟩).run P w = .ok u w := by
                  have hc := hcell 0 u (by rw [h3]; simp)
                  simp at hc
                  simp [loadVar, hti.isAgg, hc]
                exact ⟨u, hr1, h4⟩
              · cases hp
          · cases hp
        · cases hp
    obtain ⟨v, hv1, hv2⟩ := key
    refine ⟨v :: vs, ?_, by simp only [VRs]; exact ⟨v, vs, rfl, hv2, h2⟩⟩
    rw [List.mapM_cons]
    rw [Sem.run_bind, hv1]
    simp only [Result.andThen_ok, Sem.run_bind]
    rw [h1]
    rfl

theorem ACalls.intro {P : Program} {Γ : Gl} {ty : Tys} {f : FuncId} {fn : Func} {c : Code} {args : List PV} {m m' : MemL} {pv : PV} {new : List Nat} (hf : P.funcs[f]? = some fn) (hb : fn.body = some c) (hn : args.length ≤ fn.ntmps)
    (ht : ∀ t y, ResultVar.cell t y ∈ fn.results.toList → TI P y (ty y).1 (ty y).2)
    (h : ∀ w F ν, ACode ⟨P, Γ, fn.ntmps, w, F, ν, m⟩ c (enterR 0 args) m (Post.body ty fn m pv m' new)) : ACalls P Γ f args m pv m' new := by
  intro w F ν vs hst hvs hg
  refine calls_of_wp hf hb ?_
  have hlen := hvs.length
  have hinv : Inv ⟨P, Γ, fn.ntmps, w, F, ν, m⟩ (enterR 0 args) m { tmps := vs.toArray ++ Array.replicate (fn.ntmps - vs.toArray.size) undef, defers := [] } w F ν := by
    refine ⟨hst, fun t p hp => ?_, by simp; omega, rfl, Ext.refl _ _ _ _, fun _ _ => rfl, hg⟩
    obtain ⟨_, h2⟩ := enterR.get hp
    simp only [Nat.sub_zero] at h2
    obtain ⟨v, hv1, hv2⟩ := hvs.get h2
    have hlt : t < vs.length := by
      rcases Nat.lt_or_ge t vs.length with h' | h'
      · exact h'
      · simp [List.getElem?_eq_none h'] at hv1
    have : (vs.toArray ++ Array.replicate (fn.ntmps - vs.toArray.size) undef).getD t undef = v := by
      rw [Array.getD_eq_getD_getElem?, Array.getElem?_append_left (by simpa using hlt)]
      simp [hv1]
    rw [this]; exact hv2
  refine Code.wp_mono (fun e a' w' hq => ?_) (h w F ν _ w F ν hinv)
  obtain ⟨r', m1, F', ν', ⟨he, ⟨ps, hps, hpv⟩, hk, hin, hall, hnew⟩, hi⟩ := hq
  have main : a'.defers = [] ∧ ∃ v, (results fn a'.tmps).run P w' = .ok v w' ∧ ∃ v' F' ν', Ending.returned v = .returned v' ∧ VR F' ν' v' pv ∧ St F' ν' (look m') w' ∧ Ext F ν (look m) w F' ν' (look m') w' ∧ ∀ id, id ∉ new → ν' id = ν id := by
    obtain ⟨us, hr1, hr2⟩ := results_run hi.st hi.regs fn.results.toList ps ht hps
    have hst' := hi.st.lessE hk.get
    have hext' := hi.ext.lessE hk.get
    let μ : Nu := fun id => if id ∈ liveL m' then ν' id else ν id
    have hμ : ∀ i ∈ liveL m', μ i = ν' i := fun i hi => by simp only [μ]; rw [if_pos hi]
    refine ⟨hi.defers, oneOf us, ?_, _, F', μ, rfl, ?_, ?_, ?_, fun id hid => ?_⟩
    · have hrr : (results fn a'.tmps) = (Array.mapM (resF a'.tmps) fn.results >>= fun vs => Pure.pure (if h : vs.size = 1 then vs[0] else .tuple vs)) := rfl
      rw [hrr, Array.mapM_eq_mapM_toList]
      simp only [Sem.run_bind, Sem.run_map]
      rw [hr1]
      simp only [Result.andThen_ok, Sem.run_pure]
      clear hr1 hr2
      match us with
      | [] => rfl
      | [v] => rfl
      | v :: v' :: us => rfl
    · have hl := hr2.length
      refine VR.inn hμ hin ?_
      match us, ps, hl with
      | [], [], _ => simp only [oneP] at hpv; subst hpv; simp only [VR]; exact ⟨[], rfl, hr2⟩
      | [v], [p], _ =>
        simp only [oneP] at hpv; subst hpv
        simp only [VRs] at hr2
        obtain ⟨v1, r1, h1, h2, _⟩ := hr2
        cases h1; exact h2
      | v :: v' :: us, p :: p' :: ps, _ => simp only [oneP] at hpv; subst hpv; simp only [VR]; exact ⟨_, rfl, hr2⟩
    · refine ⟨hst'.fz, fun id e he => ?_, fun i j d e b hi' hj hbi hbj => ?_⟩
      · rw [hμ id (liveL.mem he)]
        exact (hst'.ents id e he).inn hμ (allM.get hall he)
      · rw [hμ i (liveL.mem hi')] at hbi
        rw [hμ j (liveL.mem hj)] at hbj
        exact hst'.dist i j d e b hi' hj hbi hbj
    · refine ⟨hext'.os, hext'.tape, hext'.output, hext'.size, hext'.mono, hext'.keep, fun id e b he hb => ?_⟩
      rw [hμ id (liveL.mem he)] at hb
      exact hext'.blocks id e b he hb
    · simp only [μ]
      split
      · rename_i hl
        rcases hnew id hl with h' | h'
        · exact absurd h' hid
        · exact hi.same id h'
      · rfl
  rcases he with rfl | rfl
  · exact main
  · exact main

/-- A function that has a body. -/
structure CI (P : Program) (f : FuncId) : Prop where
  fn : ∃ fn, P.funcs[f]? = some fn ∧ (fn.name == "runtime.NumGoroutine") = false ∧ fn.body.isNone = false

def entL : MemL → List (Nat × Ent)
  | [] => []
  | (i, some e) :: m => (i, e) :: entL m
  | (_, none) :: m => entL m
theorem entL.key : ∀ {m : MemL} {i : Nat} {e : Ent}, (i, e) ∈ entL m → ∃ y ∈ m, y.1 = i
  | [], i, e, h => by simp [entL] at h
  | (j, none) :: m, i, e, h => by
    simp only [entL] at h; obtain ⟨z, hz, hzi⟩ := entL.key h; exact ⟨z, by simp [hz], hzi⟩
  | (j, some x) :: m, i, e, h => by
    simp only [entL, List.mem_cons, Prod.mk.injEq] at h
    rcases h with ⟨rfl, rfl⟩ | h
    · exact ⟨(i, some e), by simp, rfl⟩
    · obtain ⟨z, hz, hzi⟩ := entL.key h; exact ⟨z, by simp [hz], hzi⟩
/-- Every number stands once. -/
def once : MemL → Bool
  | [] => true
  | (i, _) :: m => !(m.any fun x => x.1 == i) && once m

theorem look_of_entL : ∀ {m : MemL}, once m = true → ∀ {i : Nat} {e : Ent}, look m i = some e ↔ (i, e) ∈ entL m
  | [], _, i, e => by simp [look, updM, entL]
  | (k, some x) :: m, ho, i, e => by
    simp only [once, Bool.and_eq_true, Bool.not_eq_true', List.any_eq_false, beq_iff_eq] at ho
    have ih := look_of_entL ho.2 (i := i) (e := e)
    simp only [look, updM, entL, List.mem_cons, Prod.mk.injEq] at ih ⊢
    constructor
    · intro h
      split at h
      · rename_i hk; cases h; exact .inl ⟨hk, rfl⟩
      · exact .inr (ih.1 h)
    · rintro (⟨rfl, rfl⟩ | h)
      · simp
      · split
        · rename_i hk
          exfalso
          obtain ⟨y, hy, hyi⟩ := entL.key h
          exact ho.1 y hy (by rw [hyi, hk])
        · exact ih.2 h
  | (k, none) :: m, ho, i, e => by
    simp only [once, Bool.and_eq_true, Bool.not_eq_true', List.any_eq_false, beq_iff_eq] at ho
    have ih := look_of_entL ho.2 (i := i) (e := e)
    simp only [look, updM, entL] at ih ⊢
    constructor
    · intro h
      split at h
      · cases h
      · exact ih.1 h
    · intro h
      split
      · rename_i hk
        exfalso
        obtain ⟨y, hy, hyi⟩ := entL.key h
        exact ho.1 y hy (by rw [hyi, hk])
      · exact ih.2 h

def kill : MemL → MemL
  | [] => []
  | (i, _) :: m => (i, none) :: kill m

theorem kill.get (M : Mem) : ∀ {m : MemL} {i : Nat}, updM M (kill m) i = M i ∨ (updM M (kill m) i = none ∧ ∃ x ∈ m, x.1 = i)
  | [], i => .inl rfl
  | (k, x) :: m, i => by
    simp only [kill, updM]
    split
    · rename_i h; exact .inr ⟨rfl, (k, x), by simp, h.symm⟩
    · rcases kill.get M (m := m) (i := i) with h | ⟨h, y, hy, hyi⟩
      · exact .inl h
      · exact .inr ⟨h, y, by simp [hy], hyi⟩
theorem kill.none (M : Mem) : ∀ {m : MemL} {i : Nat}, (∃ x ∈ m, x.1 = i) → updM M (kill m) i = none
  | [], i, h => by simp at h
  | (k, x) :: m, i, h => by
    simp only [kill, updM]
    split
    · rfl
    · rename_i hne
      obtain ⟨y, hy, hyi⟩ := h
      rcases List.mem_cons.1 hy with rfl | hy
      · exact absurd hyi.symm hne
      · exact kill.none M ⟨y, hy, hyi⟩
theorem updM_get (M : Mem) : ∀ {m : MemL} {i : Nat}, (updM M m i = look m i ∧ ∃ x ∈ m, x.1 = i) ∨ (updM M m i = M i ∧ ∀ x ∈ m, x.1 ≠ i)
  | [], i => .inr ⟨rfl, by simp⟩
  | (k, x) :: m, i => by
    simp only [updM, look]
    by_cases h : i = k
    · subst h; exact .inl ⟨by simp, (i, x), by simp, rfl⟩
    · rw [if_neg h, if_neg h]
      rcases updM_get M (m := m) (i := i) with ⟨h1, y, hy, hyi⟩ | ⟨h1, h2⟩
      · exact .inl ⟨h1, y, by simp [hy], hyi⟩
      · refine .inr ⟨h1, fun y hy => ?_⟩
        rcases List.mem_cons.1 hy with rfl | hy
        · exact fun e => h e.symm
        · exact h2 y hy

/-- Every block that the call leaves was handed to it, or is new. -/
def madeOK (m m' : MemL) (new : List Nat) : Bool := m'.all fun x => m.any (fun y => y.1 == x.1) || new.contains x.1

section
variable {P : Program} {o : Oper}

theorem call_core {Γ : Gl} {f : FuncId} {args : List PV} {mc mc' : MemL} {pv : PV} {new : List Nat} (hC : ACalls P Γ f args mc pv mc' new) (hci : CI P f) (ho1 : once mc = true) (hmk : madeOK mc mc' new = true)
    {a : Act} {w : World} {F : Fz} {ν : Nu} {M : Mem} (hst : St F ν M w) (hg : GOK Γ F) {vs : List Value} (hvs : VRs F ν vs args) (hm : ∀ x ∈ entL mc, M x.1 = some x.2) (hn : ∀ s ∈ new, M s = none) (hs : ∀ id e, M id = some e → ∀ s ∈ new, e.says s = false)
    (hrun : ∀ w, (execOp a.eval o).run P w = (callFunc f vs.toArray).run P w) (K : Act → World → Prop) (Q : Exit → Act → World → Prop)
    (hK : ∀ v w' F' ν', (∀ p, some pv = some p → VR F' ν' v p) → St F' ν' (updM M (mc' ++ kill mc)) w' → Ext F ν M w F' ν' (updM M (mc' ++ kill mc)) w' → (∀ id, id ∉ new → ν' id = ν id) → K (a.put o.dst v) w') : o.wp P a w K Q := by
  obtain ⟨fn, h1, h2, h3⟩ := hci.fn
  have hcf : (callFunc f vs.toArray).run P w = .ok (.enter f vs.toArray) w := by
    simp only [callFunc, Sem.run_bind, run_program, Result.andThen_ok, h1]
    rw [if_neg (by rw [h2]; simp), if_neg (by rw [h3]; simp)]
    rfl
  unfold Oper.wp
  rw [hrun, hcf]
  simp only [Oper.upon]
  have hle : Mem.le (look mc) M := fun i e he => hm (i, e) ((look_of_entL ho1).1 he)
  refine (hC w F ν vs (hst.less hle) hvs hg).mono fun e w' hq => ?_
  obtain ⟨v, F', ν', rfl, hv, hst', hext, hν⟩ := hq
  have hmade : ∀ i e, look mc' i = some e → (∃ x ∈ mc, x.1 = i) ∨ i ∈ new := by
    intro i e he
    have : ∃ x ∈ mc', x.1 = i := by
      rcases updM_get (fun _ => none) (m := mc') (i := i) with ⟨_, h⟩ | ⟨h, _⟩
      · exact h
      · rw [look, h] at he; cases he
    obtain ⟨x, hx, rfl⟩ := this
    have := List.all_eq_true.1 hmk x hx
    simp only [Bool.or_eq_true, List.any_eq_true, beq_iff_eq, List.contains_iff_mem] at this
    rcases this with ⟨y, hy, hyi⟩ | h
    · exact .inl ⟨y, hy, hyi⟩
    · exact .inr h
  -- where a block of the state behind the call comes from
  have from_ : ∀ i e, updM M (mc' ++ kill mc) i = some e → (look mc' i = some e) ∨ (M i = some e ∧ (∀ x ∈ mc, x.1 ≠ i) ∧ ∀ x ∈ mc', x.1 ≠ i) := by
    intro i e he
    rw [updM_append] at he
    rcases updM_get (updM M (kill mc)) (m := mc') (i := i) with ⟨h, _⟩ | ⟨h, hne⟩
    · rw [h] at he; exact .inl he
    · rw [h] at he
      by_cases hx : ∃ x ∈ mc, x.1 = i
      · rw [kill.none M hx] at he; cases he
      · rcases kill.get M (m := mc) (i := i) with h' | ⟨h', hx'⟩
        · rw [h'] at he
          exact .inr ⟨he, fun x hx' e' => hx ⟨x, hx', e'⟩, hne⟩
        · exact absurd hx' hx
  have notnew : ∀ i e, M i = some e → i ∉ new := fun i e he hm => by rw [hn i hm] at he; cases he
  have apart : ∀ i e b, M i = some e → (∀ x ∈ mc, x.1 ≠ i) → blk (ν i) = some b → ∀ id d, look mc id = some d → blk (ν id) ≠ some b := by
    intro i e b hi hne hb id d hd hbd
    have := hst.dist i id e d b hi (hle id d hd) hb hbd
    subst this
    have h := (look_of_entL ho1).1 hd
    obtain ⟨y, hy, hyi⟩ := entL.key h
    exact hne y hy hyi
  refine hK v w' F' ν' (fun p hp => by cases hp; exact hv) ⟨hst'.fz, fun i e he => ?_, fun i j d e b hi hj hbi hbj => ?_⟩ ⟨hext.os, hext.tape, hext.output, hext.size, hext.mono, fun b hb hne => hext.keep b hb fun id e he => hne id e (hle id e he), fun i e b he hb => ?_⟩ hν
  · rcases from_ i e he with h | ⟨h, hne, _⟩
    · exact hst'.ents i e h
    · rw [hν i (notnew i e h)]
      refine (hst.ents i e h).mono (new := new) hext.mono (fun s => ?_) (fun s hm => hs i e h s hm) (fun b hb => ?_)
      · by_cases hm : s ∈ new
        · exact .inr hm
        · exact .inl (hν s hm).symm
      · have hk := hext.keep b ((hst.ents i e h).lt hb) (apart i e b h hne hb)
        exact ⟨hk.1, fun o => hk.2 o⟩
  · rcases from_ i d hi with h | ⟨h, hne, _⟩ <;> rcases from_ j e hj with h' | ⟨h', hne', _⟩
    · exact hst'.dist i j d e b h h' hbi hbj
    · rw [hν j (notnew j e h')] at hbj
      rcases hext.blocks i d b h hbi with ⟨id, x, hx, hbx⟩ | hge
      · exact absurd hbx (apart j e b h' hne' hbj id x hx)
      · have := (hst.ents j e h').lt hbj; omega
    · rw [hν i (notnew i d h)] at hbi
      rcases hext.blocks j e b h' hbj with ⟨id, x, hx, hbx⟩ | hge
      · exact absurd hbx (apart i d b h hne hbi id x hx)
      · have := (hst.ents i d h).lt hbi; omega
    · rw [hν i (notnew i d h)] at hbi
      rw [hν j (notnew j e h')] at hbj
      exact hst.dist i j d e b h h' hbi hbj
  · rcases from_ i e he with h | ⟨h, _, _⟩
    · rcases hext.blocks i e b h hb with ⟨id, x, hx, hbx⟩ | hge
      · exact .inl ⟨id, x, hle id x hx, hbx⟩
      · exact .inr hge
    · rw [hν i (notnew i e h)] at hb
      exact .inl ⟨i, e, h, hb⟩
end
end Go.Ab
