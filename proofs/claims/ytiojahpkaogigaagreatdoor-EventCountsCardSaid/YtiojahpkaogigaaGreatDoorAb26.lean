/- The beginning and the end of a body. Conditions: none. -/
import Derived.Test.YtiojahpkaogigaaGreatDoorAb25
namespace Go.Ab

/-- How a body ends: what it returns may be told less exactly than it is known. -/
def Post.bodyW (ty : Tys) (fn : Func) (m0 : MemL) (pv : PV) (m' : MemL) (new : List Nat) : Post
  | e, r, m => (e = .ret ∨ e = .normal) ∧ (∃ qs ps, fn.results.toList.mapM (resP ty m r) = some qs ∧ LeL qs ps ∧ oneP ps = pv) ∧ keepM m m' ∧ pv.inn (liveL m') = true ∧ allM (fun e => e.inn (liveL m')) m' = true ∧ ∀ i ∈ liveL m', i ∈ new ∨ look m0 i ≠ none

theorem ACalls.introW {P : Program} {Γ : Gl} {ty : Tys} {f : FuncId} {fn : Func} {c : Code} {args : List PV} {m m' : MemL} {pv : PV} {new : List Nat} (hf : P.funcs[f]? = some fn) (hb : fn.body = some c) (hn : args.length ≤ fn.ntmps)
    (ht : ∀ t y, ResultVar.cell t y ∈ fn.results.toList → TI P y (ty y).1 (ty y).2)
    (h : ∀ w F ν, ACode ⟨P, Γ, fn.ntmps, w, F, ν, m⟩ c (enterR 0 args) m (Post.bodyW ty fn m pv m' new)) : ACalls P Γ f args m pv m' new := by
  intro w F ν vs hst hvs hg
  refine calls_of_wp hf hb ?_
  have hlen := hvs.length
  have hinv : Inv ⟨P, Γ, fn.ntmps, w, F, ν, m⟩ (enterR 0 args) m { tmps := vs.toArray ++ Array.replicate (fn.ntmps - vs.toArray.size) undef, defers := [] } w F ν := by
    refine ⟨hst, fun t p hp => ?_, by simp; omega, rfl, Ext.refl _ _ _ _, fun _ _ => rfl, hg⟩
    obtain ⟨_, h2⟩ := enterR.get hp
    simp only [Nat.sub_zero] at h2
    obtain ⟨v, hv1, hv2⟩ := hvs.get h2
    have hlt : t < vs.length := by
      rcases Nat.lt_or_ge t vs.length with h' | h'
      · exact h'
      · simp [List.getElem?_eq_none h'] at hv1
    have : (vs.toArray ++ Array.replicate (fn.ntmps - vs.toArray.size) undef).getD t undef = v := by
      rw [Array.getD_eq_getD_getElem?, Array.getElem?_append_left (by simpa using hlt)]
      simp [hv1]
    rw [this]; exact hv2
  refine Code.wp_mono (fun e a' w' hq => ?_) (h w F ν _ w F ν hinv)
  obtain ⟨r', m1, F', ν', ⟨he, ⟨qs, ps, hps, hle, hpv⟩, hk, hin, hall, hnew⟩, hi⟩ := hq
  have main : a'.defers = [] ∧ ∃ v, (results fn a'.tmps).run P w' = .ok v w' ∧ ∃ v' F' ν', Ending.returned v = .returned v' ∧ VR F' ν' v' pv ∧ St F' ν' (look m') w' ∧ Ext F ν (look m) w F' ν' (look m') w' ∧ ∀ id, id ∉ new → ν' id = ν id := by
    obtain ⟨us, hr1, hr0⟩ := results_run hi.st hi.regs fn.results.toList qs ht hps
    have hr2 := hle.vrs hr0
    have hst' := hi.st.lessE hk.get
    have hext' := hi.ext.lessE hk.get
    let μ : Nu := fun id => if id ∈ liveL m' then ν' id else ν id
    have hμ : ∀ i ∈ liveL m', μ i = ν' i := fun i hi => by simp only [μ]; rw [if_pos hi]
    refine ⟨hi.defers, oneOf us, ?_, _, F', μ, rfl, ?_, ?_, ?_, fun id hid => ?_⟩
    · have hrr : (results fn a'.tmps) = (Array.mapM (resF a'.tmps) fn.results >>= fun vs => Pure.pure (if h : vs.size = 1 then vs[0] else .tuple vs)) := rfl
      rw [hrr, Array.mapM_eq_mapM_toList]
      simp only [Sem.run_bind, Sem.run_map]
      rw [hr1]
      simp only [Result.andThen_ok, Sem.run_pure]
      clear hr1 hr2 hr0
      match us with
      | [] => rfl
      | [v] => rfl
      | v :: v' :: us => rfl
    · have hl := hr2.length
      refine VR.inn hμ hin ?_
      match us, ps, hl with
      | [], [], _ => simp only [oneP] at hpv; subst hpv; simp only [VR]; exact ⟨[], rfl, hr2⟩
      | [v], [p], _ =>
        simp only [oneP] at hpv; subst hpv
        simp only [VRs] at hr2
        obtain ⟨v1, r1, h1, h2, _⟩ := hr2
        cases h1; exact h2
      | v :: v' :: us, p :: p' :: ps, _ => simp only [oneP] at hpv; subst hpv; simp only [VR]; exact ⟨_, rfl, hr2⟩
    · refine ⟨hst'.fz, fun id e he => ?_, fun i j d e b hi' hj hbi hbj => ?_⟩
      · rw [hμ id (liveL.mem he)]
        exact (hst'.ents id e he).inn hμ (allM.get hall he)
      · rw [hμ i (liveL.mem hi')] at hbi
        rw [hμ j (liveL.mem hj)] at hbj
        exact hst'.dist i j d e b hi' hj hbi hbj
    · refine ⟨hext'.os, hext'.tape, hext'.output, hext'.size, hext'.mono, hext'.keep, fun id e b he hb => ?_⟩
      rw [hμ id (liveL.mem he)] at hb
      exact hext'.blocks id e b he hb
    · simp only [μ]
      split
      · rename_i hl
        rcases hnew id hl with h' | h'
        · exact absurd h' hid
        · exact hi.same id h'
      · rfl
  rcases he with rfl | rfl
  · exact main
  · exact main


def bodyOf (fn : Func) : Code := match fn.body with
  | some c => c
  | none => .skip
def resL : List ResultVar → PV → List PV
  | [_], p => [p]
  | _, .tup l => l
  | _, _ => []
def tyT (T : Tb) : Tys := fun t => (T.t.ti t).getD (false, 1)
def resB (T : Tb) : List ResultVar → Bool
  | [] => true
  | .tmp _ :: l => resB T l
  | .cell _ y :: l => (T.t.ti y).isSome && resB T l
theorem resB_ok {P : Program} {T : Tb} (hT : TbOK P T) : ∀ {l : List ResultVar}, resB T l = true → ∀ t y, ResultVar.cell t y ∈ l → TI P y (tyT T y).1 (tyT T y).2
  | [], _, t, y, h => by simp at h
  | .tmp _ :: l, hb, t, y, h => by
    simp only [List.mem_cons, reduceCtorEq, false_or] at h
    exact resB_ok hT (by simpa [resB] using hb) t y h
  | .cell _ z :: l, hb, t, y, h => by
    simp only [resB, Bool.and_eq_true] at hb
    rcases List.mem_cons.1 h with h | h
    · cases h
      cases ht : T.t.ti z with
      | none => rw [ht] at hb; simp at hb
      | some x => simp only [tyT, ht, Option.getD_some]; exact hT.t.ti z _ _ ht
    · exact resB_ok hT hb.2 t y h

theorem ACalls.enter {P : Program} {T : Tb} (hS : Prg P T) {Γ : Gl} {f : FuncId} {fn : Func} {args : List PV} {m m' : MemL} {pv : PV} {new : List Nat} (hf : P.funcs[f]? = some fn) (h : ∀ w F ν, AConf ⟨P, Γ, fn.ntmps, w, F, ν, m⟩ (Post.bodyW (tyT T) fn m pv m' new) (Cf.at (bodyOf fn) [] (enterR 0 args) m))
    (hb : (fn.body.isSome, Nat.ble args.length fn.ntmps, resB T fn.results.toList) = (true, true, true) := by kernel_rfl) : ACalls P Γ f args m pv m' new := by
  injection hb with h1 h2
  injection h2 with h2 h3
  cases hbd : fn.body with
  | none => rw [hbd] at h1; cases h1
  | some c =>
    refine ACalls.introW (ty := tyT T) hf hbd (Nat.le_of_ble_eq_true h2) (resB_ok hS.t h3) fun w F ν => ?_
    have := h w F ν
    have hc : bodyOf fn = c := by simp only [bodyOf, hbd]
    unfold AConf at this
    simp only [Cf.at, nav, ACur, hc, Post.fr] at this
    exact this

def isEnd : Cur → List Fr → Bool
  | .done .ret, _ => true
  | .done .normal, [] => true
  | _, _ => false
section
variable {C : Cx} {T : Tb}
theorem leL_of {es qs ps : List PV} (h : wkL es qs = ps) : LeL qs ps := by subst h; exact wkL_le es qs
/-- The end of a body. -/
theorem AConf.fin {ty : Tys} {fn : Func} {m0 m' : MemL} {pv : PV} {new : List Nat} {d : Cf C.P C.Γ}
    (hd : (isEnd d.cur d.fs, (fn.results.toList.mapM (resP ty d.a.m d.a.r)).map (fun qs => wkL (resL fn.results.toList pv) qs), subM d.a.m m') = (true, some (resL fn.results.toList pv), m') := by kernel_rfl)
    (hb : (pv.inn (liveL m') && allM (fun e => e.inn (liveL m')) m' && (once m0 && (liveL m').all fun i => new.contains i || (liveL m0).contains i)) = true := by kernel_rfl) (hp : oneP (resL fn.results.toList pv) = pv := by kernel_rfl) : AConf C (Post.bodyW ty fn m0 pv m' new) d := by
  injection hd with h1 h2
  injection h2 with h2 h3
  simp only [Bool.and_eq_true] at hb
  obtain ⟨⟨g1, g2⟩, g3, g4⟩ := hb
  have key : ∀ e, (e = .ret ∨ e = .normal) → Post.bodyW ty fn m0 pv m' new e d.a.r d.a.m := by
    intro e he
    cases hq : fn.results.toList.mapM (resP ty d.a.m d.a.r) with
    | none => rw [hq] at h2; cases h2
    | some qs =>
      rw [hq] at h2
      simp only [Option.map_some, Option.some.injEq] at h2
      refine ⟨he, ⟨qs, _, hq, leL_of h2, hp⟩, ?_, g1, g2, fun i hi => ?_⟩
      · have hk := subM_get h3
        have hon : ∀ (l : MemL), (∀ x ∈ l, x ∈ m') → keepM d.a.m l := by
          intro l
          induction l with
          | nil => intro _; trivial
          | cons x l ih =>
            intro hl
            obtain ⟨i, e⟩ := x
            refine ⟨?_, ih fun y hy => hl y (List.mem_cons_of_mem _ hy)⟩
            cases e with
            | none => trivial
            | some e =>
              have hm : (i, some e) ∈ subM d.a.m m' := by rw [h3]; exact hl _ List.mem_cons_self
              simp only [subM, List.mem_map] at hm
              obtain ⟨⟨i', e'⟩, _, hx⟩ := hm
              cases e' with
              | none => simp at hx
              | some e' =>
                simp only [Prod.mk.injEq] at hx
                obtain ⟨rfl, hx⟩ := hx
                cases hl2 : look d.a.m i' with
                | none => rw [hl2] at hx; cases hx
                | some q =>
                  rw [hl2] at hx
                  simp only [Option.map_some, Option.some.injEq] at hx
                  exact ⟨q, rfl, by have := wkE_le e' q; rwa [hx] at this⟩
        exact hon m' fun _ h => h
      · simp only [List.all_eq_true, Bool.or_eq_true, List.contains_iff_mem] at g4
        rcases g4 i hi with h | h
        · exact .inl h
        · exact .inr (liveL_once g3 i h)
  unfold AConf
  cases hc : d.cur with
  | code _ _ => rw [hc] at h1; cases h1
  | ops _ _ => rw [hc] at h1; cases h1
  | done e =>
    rw [hc] at h1
    simp only [ACur]
    cases e with
    | ret => exact Post.fr_ret (key _ (.inl rfl))
    | normal =>
      cases hfs : d.fs with
      | nil => exact key _ (.inr rfl)
      | cons f fs => rw [hfs] at h1; cases h1
    | _ => cases h1
end
end Go.Ab
