/- Calls as operations, closures; states told otherwise: what is frozen, renamed, begun. Conditions: none. -/
import Derived.Test.YtiojahpkaogigaaGreatDoorAb7
namespace Go.Ab
variable {wr wr2 : Bool}

theorem Le.nil : Le (.c (.raw (.slice none 0 0))) (.c (.sl [])) := fun F ν v h => by
  have := VR.raw h; subst this
  simp only [VR, FR]
  exact ⟨none, 0, rfl, by simp, by simp [maxLen], fun _ => rfl, .inl trivial⟩
def LeL : List PV → List PV → Prop
  | [], [] => True
  | p :: ps, q :: qs => Le p q ∧ LeL ps qs
  | _, _ => False
theorem LeL.vrs {F : Fz} {ν : Nu} : ∀ {ps qs : List PV} {vs : List Value}, LeL ps qs → VRs F ν vs ps → VRs F ν vs qs
  | [], [], _, _, h => h
  | p :: ps, q :: qs, vs, hl, h => by
    simp only [VRs] at h ⊢
    obtain ⟨v, r, h1, h2, h3⟩ := h
    exact ⟨v, r, h1, hl.1 _ _ _ h2, LeL.vrs hl.2 h3⟩
  | [], _ :: _, _, hl, _ => hl.elim
  | _ :: _, [], _, hl, _ => hl.elim
theorem Le.agg {ps qs : List PV} (h : LeL ps qs) : Le (.agg ps) (.agg qs) := fun F ν v hv => by
  simp only [VR] at hv ⊢
  obtain ⟨vs, h1, h2⟩ := hv
  exact ⟨vs, h1, h.vrs h2⟩
theorem Le.tup {ps qs : List PV} (h : LeL ps qs) : Le (.tup ps) (.tup qs) := fun F ν v hv => by
  simp only [VR] at hv ⊢
  obtain ⟨vs, h1, h2⟩ := hv
  exact ⟨vs, h1, h.vrs h2⟩
theorem LeE.var {ps qs : List PV} (h : LeL ps qs) : LeE (.var ps) (.var qs) := fun F ν w hd hr => by
  obtain ⟨b, cs, ty, h1, h2, h3, h4, h5⟩ := hr
  exact ⟨b, cs, ty, h1, h2, h3, h.vrs h4, h5⟩

section
variable {P : Program} {o : Oper}

theorem OpTG.call {Γ : Gl} {x : Operand} {xs : List Operand} {ts : Array TypeId} {f : FuncId} {caps ps : List PV} {mc mc' : MemL} {pv : PV} {new : List Nat} (ho : o.op = .call { callee := .value x, args := xs.toArray, argTypes := ts })
    (hC : ACalls P Γ f (ps ++ caps) mc pv mc' new) (hci : CI P f) (ho1 : once mc = true) (hmk : madeOK mc mc' new = true) (hl : xs.length = ps.length) :
    OpTG P Γ o ((x, .func f caps) :: xs.zip ps) (entL mc) (some pv) (mc' ++ kill mc) new := by
  intro a w F ν M hg hst hi hm hn hs K Q hK
  have hx := hi (x, .func f caps) (by simp)
  simp only [VR] at hx
  obtain ⟨cvs, hxv, hcv⟩ := hx
  have hvs := (evals hl (fun y hy => hi y (by simp [hy]))).append hcv
  refine call_core hC hci ho1 hmk hst hg hvs hm hn hs (fun w => ?_) K Q hK
  simp only [execOp, ho, resolve, hxv, Deferred.ofValue, Sem.run_bind, Sem.run_pure, Result.andThen_ok, invoke]
  congr 2
  apply Array.ext'
  simp

theorem OpT.makeFunc {f : FuncId} {xs : List Operand} {ps : List PV} (ho : o.op = .makeFunc (.func f) #[] xs.toArray) (hl : xs.length = ps.length) : OpT P o (xs.zip ps) [] (some (.func f ps)) [] [] :=
  OpT.pure fun a w F ν M _ hi _ => ⟨.func (.func f) #[] (xs.map a.eval).toArray, by simp [execOp, ho, Instr.makeFunc], by simp only [VR]; exact ⟨_, rfl, evals hl hi⟩⟩

theorem OpT.min2 {x y : Operand} {k : IntKind} {a b : Int} {t : Array TypeId} (ho : o.op = .call { callee := .builtin .min, args := #[x, y], argTypes := t }) :
    OpT P o [(x, .c (.raw (.int k a))), (y, .c (.raw (.int k b)))] [] (some (.c (.raw (.int k (if b < a then b else a))))) [] [] :=
  OpT.pure fun ac w F ν M _ hi _ => by
    have h1 := VR.raw (hi (x, .c (.raw (.int k a))) (by simp))
    have h2 := VR.raw (hi (y, .c (.raw (.int k b))) (by simp))
    exact ⟨.int k (if b < a then b else a), by simp [execOp, ho, resolve, invoke, builtin, h1, h2, Builtin.min_, Builtin.min2], VR.of_raw rfl⟩
end

mutual
/-- A row of the call's own that is frozen: what the registers hold of it. -/
def PV.fz (id : Nat) (y : FV) : PV → PV
  | .osl i => if i = id then .c y else .osl i
  | .agg xs => .agg (PV.fzL id y xs)
  | .tup xs => .tup (PV.fzL id y xs)
  | .func f cap => .func f (PV.fzL id y cap)
  | p => p
def PV.fzL (id : Nat) (y : FV) : List PV → List PV
  | [] => []
  | x :: xs => x.fz id y :: PV.fzL id y xs
end
mutual
theorem VR.fz {F F' : Fz} {ν : Nu} {id : Nat} {y : FV} (hF : F.le F') (hy : FR F' (ν id) y) {v : Value} : ∀ {p : PV}, VR F ν v p → VR F' ν v (p.fz id y)
  | .c x, h => by simp only [VR, PV.fz] at h ⊢; exact h.mono hF
  | .agg xs, h => by
    simp only [VR, PV.fz] at h ⊢
    obtain ⟨vs, h1, h2⟩ := h
    exact ⟨vs, h1, VRs.fz hF hy h2⟩
  | .tup xs, h => by
    simp only [VR, PV.fz] at h ⊢
    obtain ⟨vs, h1, h2⟩ := h
    exact ⟨vs, h1, VRs.fz hF hy h2⟩
  | .ptr i off, h => by simpa only [VR, PV.fz] using h
  | .fptr cells, h => by
    simp only [VR, PV.fz] at h ⊢
    obtain ⟨b, o, h1, h2⟩ := h
    exact ⟨b, o, h1, h2.mono hF⟩
  | .osl i, h => by
    simp only [PV.fz]
    split
    · rename_i e; subst e
      simp only [VR] at h ⊢
      rw [h.1]; exact hy
    · simpa only [VR] using h
  | .aptr i sz k off, h => by simpa only [VR, PV.fz] using h
  | .map i, h => by simpa only [VR, PV.fz] using h
  | .func f cap, h => by
    simp only [VR, PV.fz] at h ⊢
    obtain ⟨vs, h1, h2⟩ := h
    exact ⟨vs, h1, VRs.fz hF hy h2⟩
theorem VRs.fz {F F' : Fz} {ν : Nu} {id : Nat} {y : FV} (hF : F.le F') (hy : FR F' (ν id) y) {vs : List Value} : ∀ {ps : List PV}, VRs F ν vs ps → VRs F' ν vs (PV.fzL id y ps)
  | [], h => by simpa only [VRs, PV.fzL] using h
  | p :: ps, h => by
    simp only [VRs, PV.fzL] at h ⊢
    obtain ⟨v, r, h1, h2, h3⟩ := h
    exact ⟨v, r, h1, VR.fz hF hy h2, VRs.fz hF hy h3⟩
end
def Ent.fz (id : Nat) (y : FV) : Ent → Ent
  | .var cells => .var (PV.fzL id y cells)
  | e => e
def fzR (id : Nat) (y : FV) : Regs → Regs
  | [] => []
  | (t, p) :: r => (t, p.map (PV.fz id y)) :: fzR id y r
def fzM (id : Nat) (y : FV) : MemL → MemL
  | [] => []
  | (i, e) :: m => (i, e.map (Ent.fz id y)) :: fzM id y m
theorem fzR_look (id : Nat) (y : FV) : ∀ (r : Regs) (t : Nat), lookR (fzR id y r) t = (lookR r t).map (PV.fz id y)
  | [], t => rfl
  | (k, p) :: r, t => by simp only [fzR, lookR]; split <;> first | rfl | exact fzR_look id y r t
theorem fzM_look (id : Nat) (y : FV) : ∀ (m : MemL) (i : Nat), look (fzM id y m) i = (look m i).map (Ent.fz id y)
  | [], i => rfl
  | (k, e) :: m, i => by
    have ih := fzM_look id y m i
    simp only [Go.Ab.look, fzM, updM] at ih ⊢
    split <;> first | rfl | exact ih

theorem Inv.freeze {C : Cx} {r : Regs} {m : MemL} {a : Act} {w : World} {F : Fz} {ν : Nu} (h : Inv C r m a w F ν) {id : Nat} {e : TypeId} {sz : Nat} {xs : List (List FV)} (hid : look m id = some (.arr wr e sz xs)) :
    ∃ F', Inv C (fzR id (.sl xs) r) ((id, none) :: fzM id (.sl xs) m) a w F' ν := by
  obtain ⟨hz, us, h1, h2, h3⟩ := h.st.ents id _ hid
  have hle : F.le (fun b o => if blk (ν id) = some b then us[o]? else F b o) := fun b o v hv => by
    show (if blk (ν id) = some b then us[o]? else F b o) = some v
    split
    · rename_i hb; exact (h3 b hb o v hv).2
    · exact hv
  refine ⟨fun b o => if blk (ν id) = some b then us[o]? else F b o, ?_⟩
  have hy : FR (fun b o => if blk (ν id) = some b then us[o]? else F b o) (ν id) (.sl xs) := by
    simp only [FR]
    rcases h1.2 with ⟨hv, hn⟩ | ⟨g, cap, cur, hv, _, _, hnc, hcm, _, _⟩
    · refine ⟨none, 0, by rw [hv, hn], by omega, by simp [maxLen], fun _ => rfl, .inl (List.eq_nil_of_length_eq_zero hn)⟩
    · refine ⟨_, cap, hv, hnc, hcm, by simp, .inr ⟨g, 0, sz, rfl, FRrows.of_get fun k x hk => ⟨h2.2.1 k x hk, FRcells.of_get fun j y hj => ?_⟩⟩⟩
      obtain ⟨u, hu, hr⟩ := h2.2.2 k j x y hk hj
      refine ⟨u, ?_, hr.mono hle⟩
      simp only [Nat.zero_add]
      rw [if_pos (by rw [hv]; rfl)]; exact hu
  have live : ∀ i d, look ((id, none) :: fzM id (.sl xs) m) i = some d → i ≠ id ∧ ∃ d', look m i = some d' ∧ d = d'.fz id (.sl xs) := by
    intro i d hd
    simp only [look, updM] at hd
    split at hd
    · cases hd
    · rename_i hne
      have hl := fzM_look id (.sl xs) m i
      simp only [look] at hl
      rw [hl] at hd
      simp only [Option.map_eq_some_iff] at hd
      obtain ⟨d', h4, h5⟩ := hd
      exact ⟨hne, d', h4, h5.symm⟩
  refine ⟨⟨fun b o v hv => ?_, fun i d hd => ?_, fun i j d d' b hi hj hbi hbj => ?_⟩, fun t p hp => ?_, h.size, h.defers, ⟨h.ext.os, h.ext.tape, h.ext.output, h.ext.size, Fz.le_trans h.ext.mono hle, fun b hb hn => ⟨(h.ext.keep b hb hn).1, fun o => ?_⟩, fun i d b hi hb => ?_⟩, h.same, h.gok.mono hle⟩
  · change (if blk (ν id) = some b then us[o]? else F b o) = some v at hv
    split at hv
    · rename_i hb
      have hg : (ν id).ownBlock = some b := by
        rcases h1.2 with ⟨hv', _⟩ | ⟨g, cap, cur, hv', _⟩
        · rw [hv'] at hb; simp [blk] at hb
        · rw [hv'] at hb ⊢; simpa [blk, Value.ownBlock] using hb
      have := h1.cells hg o v hv
      rw [add_flat] at this; simpa using this
    · exact h.st.fz b o v hv
  · obtain ⟨hne, d', hd', rfl⟩ := live i d hd
    have he := h.st.ents i d' hd'
    have hbne : ∀ b, blk (ν i) = some b → blk (ν id) ≠ some b := fun b hb hb' => hne (h.st.dist i id d' _ b hd' hid hb hb')
    cases d' with
    | var cells =>
      obtain ⟨b, cs, ty, e1, e2, e3, e4, e5⟩ := he
      exact ⟨b, cs, ty, e1, e2, e3, e4.fz hle hy, fun o => by show (if blk (ν id) = some b then us[o]? else F b o) = none; rw [if_neg (hbne b (by rw [e1]; rfl))]; exact e5 o⟩
    | arr wr e' sz' ys => exact he.mono (new := []) hle (fun _ => .inl rfl) (by simp) (fun b hb => ⟨rfl, fun o => by show (if blk (ν id) = some b then us[o]? else F b o) = F b o; rw [if_neg (hbne b hb)]⟩)
    | mp es => exact he.mono (new := []) hle (fun _ => .inl rfl) (by simp) (fun b hb => ⟨rfl, fun o => by show (if blk (ν id) = some b then us[o]? else F b o) = F b o; rw [if_neg (hbne b hb)]⟩)
  · obtain ⟨_, x, hx, _⟩ := live i d hi
    obtain ⟨_, y, hy', _⟩ := live j d' hj
    exact h.st.dist i j x y b hx hy' hbi hbj
  · rw [fzR_look] at hp
    simp only [Option.map_eq_some_iff] at hp
    obtain ⟨q, hq, rfl⟩ := hp
    exact (h.regs t q hq).fz hle hy
  · show (if blk (ν id) = some b then us[o]? else F b o) = C.F b o
    rw [if_neg, (h.ext.keep b hb hn).2 o]
    intro hbk
    rcases h.ext.blocks id _ b hid hbk with ⟨i, d, hi, hbi⟩ | hge
    · exact hn i d hi hbi
    · omega
  · obtain ⟨_, x, hx, _⟩ := live i d hi
    exact h.ext.blocks i x b hx hb

mutual
def PV.rn (n k : Nat) : PV → PV
  | .c x => .c x
  | .agg xs => .agg (PV.rnL n k xs)
  | .tup xs => .tup (PV.rnL n k xs)
  | .ptr id off => .ptr (if id = n then k else id) off
  | .fptr cells => .fptr cells
  | .osl id => .osl (if id = n then k else id)
  | .aptr id sz i off => .aptr (if id = n then k else id) sz i off
  | .map id => .map (if id = n then k else id)
  | .func f cap => .func f (PV.rnL n k cap)
def PV.rnL (n k : Nat) : List PV → List PV
  | [] => []
  | x :: xs => x.rn n k :: PV.rnL n k xs
end
theorem upN_rn {ν : Nu} {n k id : Nat} (h : id ≠ k) : upN ν k (ν n) (if id = n then k else id) = ν id := by
  by_cases he : id = n
  · subst he; simp
  · rw [if_neg he]; exact upN_other ν _ h
mutual
theorem VR.rn {F : Fz} {ν : Nu} {n k : Nat} {v : Value} : ∀ {p : PV}, p.says k = false → VR F ν v p → VR F (upN ν k (ν n)) v (p.rn n k)
  | .c x, _, h => by simpa only [VR, PV.rn] using h
  | .agg xs, hs, h => by
    simp only [VR, PV.rn] at h ⊢
    obtain ⟨vs, h1, h2⟩ := h
    exact ⟨vs, h1, VRs.rn (by simpa only [PV.says] using hs) h2⟩
  | .tup xs, hs, h => by
    simp only [VR, PV.rn] at h ⊢
    obtain ⟨vs, h1, h2⟩ := h
    exact ⟨vs, h1, VRs.rn (by simpa only [PV.says] using hs) h2⟩
  | .ptr i off, hs, h => by
    simp only [VR, PV.rn] at h ⊢; rw [upN_rn (by simpa [PV.says] using hs)]; exact h
  | .fptr cells, _, h => by simpa only [VR, PV.rn] using h
  | .osl i, hs, h => by
    simp only [VR, PV.rn] at h ⊢; rw [upN_rn (by simpa [PV.says] using hs)]; exact h
  | .aptr i sz j off, hs, h => by
    simp only [VR, PV.rn] at h ⊢; rw [upN_rn (by simpa [PV.says] using hs)]; exact h
  | .map i, hs, h => by
    simp only [VR, PV.rn] at h ⊢; rw [upN_rn (by simpa [PV.says] using hs)]; exact h
  | .func f cap, hs, h => by
    simp only [VR, PV.rn] at h ⊢
    obtain ⟨vs, h1, h2⟩ := h
    exact ⟨vs, h1, VRs.rn (by simpa only [PV.says] using hs) h2⟩
theorem VRs.rn {F : Fz} {ν : Nu} {n k : Nat} {vs : List Value} : ∀ {ps : List PV}, PV.saysL k ps = false → VRs F ν vs ps → VRs F (upN ν k (ν n)) vs (PV.rnL n k ps)
  | [], _, h => by simpa only [VRs, PV.rnL] using h
  | p :: ps, hs, h => by
    simp only [PV.saysL, Bool.or_eq_false_iff] at hs
    simp only [VRs, PV.rnL] at h ⊢
    obtain ⟨v, r, h1, h2, h3⟩ := h
    exact ⟨v, r, h1, VR.rn hs.1 h2, VRs.rn hs.2 h3⟩
end
def Ent.rn (n k : Nat) : Ent → Ent
  | .var cells => .var (PV.rnL n k cells)
  | e => e
def rnR (n k : Nat) : Regs → Regs
  | [] => []
  | (t, p) :: r => (t, p.map (PV.rn n k)) :: rnR n k r
def rnM (n k : Nat) : MemL → MemL
  | [] => []
  | (i, e) :: m => (if i = n then k else i, e.map (Ent.rn n k)) :: rnM n k m
theorem rnR_look (n k : Nat) : ∀ (r : Regs) (t : Nat), lookR (rnR n k r) t = (lookR r t).map (PV.rn n k)
  | [], t => rfl
  | (j, p) :: r, t => by simp only [rnR, lookR]; split <;> first | rfl | exact rnR_look n k r t
/-- No entry, not even one that is gone, stands at a number. -/
def nokey (k : Nat) : MemL → Bool
  | [] => true
  | (i, _) :: m => !(i == k) && nokey k m
theorem rnM_look (n k : Nat) : ∀ (m : MemL), nokey k m = true → ∀ (i : Nat) (e : Ent), Go.Ab.look (rnM n k m) i = some e → ∃ j d, Go.Ab.look m j = some d ∧ e = d.rn n k ∧ i = if j = n then k else j
  | [], _, i, e, h => by simp [rnM, Go.Ab.look, updM] at h
  | (j, x) :: m, hk, i, e, h => by
    simp only [nokey, Bool.and_eq_true, Bool.not_eq_true', beq_eq_false_iff_ne] at hk
    simp only [rnM, Go.Ab.look, updM] at h
    by_cases hi : i = (if j = n then k else j)
    · rw [if_pos hi] at h
      simp only [Option.map_eq_some_iff] at h
      obtain ⟨d, rfl, rfl⟩ := h
      exact ⟨j, d, by simp [Go.Ab.look, updM], rfl, hi⟩
    · rw [if_neg hi] at h
      obtain ⟨j', d, h1, h2, h3⟩ := rnM_look n k m hk.2 i e h
      refine ⟨j', d, ?_, h2, h3⟩
      simp only [Go.Ab.look, updM] at h1 ⊢
      rw [if_neg]
      · exact h1
      · rintro rfl; exact hi h3

theorem Inv.rename {C : Cx} {r : Regs} {m : MemL} {a : Act} {w : World} {F : Fz} {ν : Nu} (h : Inv C r m a w F ν) (n k : Nat) (hn : freshM n C.M = true) (hf : fresh C.M m r [k] = true) (hk : nokey k m = true) : ∃ ν', Inv C (rnR n k r) (rnM n k m) a w F ν' := by
  have hfr := fresh_get hf k (by simp)
  have hCk : look C.M k = none := hfr.1
  have hCn : look C.M n = none := (freshM.get hn).1
  have live : ∀ i e, look (rnM n k m) i = some e → ∃ j d, look m j = some d ∧ e = d.rn n k ∧ i = (if j = n then k else j) ∧ upN ν k (ν n) i = ν j ∧ j ≠ k := by
    intro i e he
    obtain ⟨j, d, h1, h2, h3⟩ := rnM_look n k m hk i e he
    have hjk : j ≠ k := by rintro rfl; rw [hfr.2.1] at h1; cases h1
    exact ⟨j, d, h1, h2, h3, by rw [h3]; exact upN_rn hjk, hjk⟩
  refine ⟨upN ν k (ν n), ⟨h.st.fz, fun i e he => ?_, fun i j d e b hi hj hbi hbj => ?_⟩, fun t p hp => ?_, h.size, h.defers, ⟨h.ext.os, h.ext.tape, h.ext.output, h.ext.size, h.ext.mono, h.ext.keep, fun i e b he hb => ?_⟩, fun id hid => ?_, h.gok⟩
  · obtain ⟨j, d, h1, rfl, _, h4, _⟩ := live i e he
    rw [h4]
    have := h.st.ents j d h1
    cases d with
    | var cells =>
      obtain ⟨b, cs, ty, e1, e2, e3, e4, e5⟩ := this
      exact ⟨b, cs, ty, e1, e2, e3, e4.rn (hfr.2.2.1 j _ h1), e5⟩
    | arr wr e' sz' ys => exact this
    | mp es => exact this
  · obtain ⟨i', x, h1, _, h3, h4, _⟩ := live i d hi
    obtain ⟨j', y, h1', _, h3', h4', _⟩ := live j e hj
    rw [h4] at hbi; rw [h4'] at hbj
    have := h.st.dist i' j' x y b h1 h1' hbi hbj
    subst this
    rw [h3, h3']
  · rw [rnR_look] at hp
    simp only [Option.map_eq_some_iff] at hp
    obtain ⟨q, hq, rfl⟩ := hp
    exact (h.regs t q hq).rn (hfr.2.2.2 t q hq)
  · obtain ⟨j, d, h1, _, _, h4, _⟩ := live i e he
    rw [h4] at hb
    exact h.ext.blocks j d b h1 hb
  · rw [upN_other ν _ (by rintro rfl; exact hid hCk)]; exact h.same id hid

/-- A nil slice in a register, or in a variable, begins a row of the call's own. -/
theorem Inv.own {C : Cx} {r : Regs} {m : MemL} {a : Act} {w : World} {F : Fz} {ν : Nu} (h : Inv C r m a w F ν) (s : Nat) (e : TypeId) (sz : Nat) (hz : 0 < sz) (hf : fresh C.M m r [s] = true) :
    Inv C r ((s, some (.arr wr e sz [])) :: m) a w F (upN ν s (.slice none 0 0)) := by
  have hfr := fresh_get hf s (by simp)
  have her : ER F (upN ν s (.slice none 0 0)) w (.slice none 0 0) (.arr wr e sz []) := ⟨hz, [], World.ownsRow_nil w 0 e sz, ⟨by simp, by simp, by simp⟩, fun b hb => by simp [blk] at hb⟩
  have hst := h.st.move none s (.slice none 0 0) _ hfr.2.1 hfr.2.2.1 none (by simp) (fun _ _ _ => rfl) (fun b hb => by simp [blk] at hb) (by simp) her
  have hext := Ext.move (F := F) (ν := ν) (M := look m) (w := w) none s (.slice none 0 0) (.arr wr e sz []) none (by simp) (fun _ _ _ => rfl) (fun b hb => by simp [blk] at hb) (Nat.le_refl _) rfl rfl rfl
  have hl : look ((s, some (.arr wr e sz [])) :: m) = updM (look m) ((s, some (.arr wr e sz [])) :: goneL none) := rfl
  refine ⟨by rw [hl]; exact hst, fun t p hp => ?_, h.size, h.defers, by rw [hl]; exact h.ext.trans hext, fun id hid => ?_, h.gok⟩
  · exact (h.regs t p hp).mono (new := [s]) F.le_refl (fun i => by
      by_cases hi : i = s
      · exact .inr (by simp [hi])
      · exact .inl (upN_other ν _ hi).symm) (fun x hx => by simp at hx; subst hx; exact hfr.2.2.2 t p hp)
  · rw [upN_other ν _ (by rintro rfl; exact hid hfr.1)]; exact h.same id hid

section
variable {C : Cx} {ops : Array Oper} {l : List Oper} {r : Regs} {m : MemL} {Q : Post} {c : Code}
theorem AOps.freeze {id : Nat} {e : TypeId} {sz : Nat} {xs : List (List FV)} (hid : look m id = some (.arr wr e sz xs)) (h : AOps C ops l (fzR id (.sl xs) r) ((id, none) :: fzM id (.sl xs) m) Q) : AOps C ops l r m Q :=
  fun a w F ν hi => by obtain ⟨F', hi'⟩ := hi.freeze hid; exact h a w F' ν hi'
theorem ACode.freeze {id : Nat} {e : TypeId} {sz : Nat} {xs : List (List FV)} (hid : look m id = some (.arr wr e sz xs)) (h : ACode C c (fzR id (.sl xs) r) ((id, none) :: fzM id (.sl xs) m) Q) : ACode C c r m Q :=
  fun a w F ν hi => by obtain ⟨F', hi'⟩ := hi.freeze hid; exact h a w F' ν hi'
theorem AOps.rename (n k : Nat) (hn : freshM n C.M = true) (hf : fresh C.M m r [k] = true) (hk : nokey k m = true) (h : AOps C ops l (rnR n k r) (rnM n k m) Q) : AOps C ops l r m Q :=
  fun a w F ν hi => by obtain ⟨ν', hi'⟩ := hi.rename n k hn hf hk; exact h a w F ν' hi'
theorem ACode.rename (n k : Nat) (hn : freshM n C.M = true) (hf : fresh C.M m r [k] = true) (hk : nokey k m = true) (h : ACode C c (rnR n k r) (rnM n k m) Q) : ACode C c r m Q :=
  fun a w F ν hi => by obtain ⟨ν', hi'⟩ := hi.rename n k hn hf hk; exact h a w F ν' hi'
end
end Go.Ab
