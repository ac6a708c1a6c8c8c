/- What allocating, storing and drawing do to the abstract states; the rules of the operations that only compute. Conditions: none. -/
import Derived.Test.YtiojahpkaogigaaGreatDoorAb1
namespace Go.Ab
variable {wr wr2 : Bool}

def upN (ν : Nu) (s : Nat) (h : Value) : Nu := fun id => if id = s then h else ν id

@[simp] theorem upN_same (ν : Nu) (s : Nat) (h : Value) : upN ν s h s = h := by simp [upN]
theorem upN_other (ν : Nu) {s id : Nat} (h : Value) (hne : id ≠ s) : upN ν s h id = ν id := by simp [upN, hne]

theorem ER.mono {F G : Fz} {ν μ : Nu} {new : List Nat} {w w' : World} {h : Value} {e : Ent} (hr : ER F ν w h e) (hF : F.le G) (hν : ∀ s, ν s = μ s ∨ s ∈ new) (hs : ∀ s ∈ new, e.says s = false)
    (hb : ∀ b, blk h = some b → w'.heap[b]? = w.heap[b]? ∧ ∀ o, G b o = F b o) : ER G μ w' h e := by
  cases e with
  | var cells =>
    obtain ⟨b, cs, ty, rfl, h1, h2, h3, h4⟩ := hr
    have hb' := hb b rfl
    exact ⟨b, cs, ty, rfl, hb'.1.trans h1, h2, h3.mono hF hν (fun s hm => hs s hm), fun o => by rw [hb'.2 o]; exact h4 o⟩
  | arr wr e sz xs =>
    obtain ⟨h0, us, h1, h2, h3⟩ := hr
    refine ⟨h0, us, ⟨h1.1, ?_⟩, ⟨h2.1, h2.2.1, fun k j x y hk hj => ?_⟩, fun b hbb o v hv => h3 b hbb o v (by rw [← (hb b hbb).2 o]; exact hv)⟩
    · rcases h1.2 with h | ⟨g, cap, cur, e1, e2, e3, e4⟩
      · exact .inl h
      · exact .inr ⟨g, cap, cur, e1, e2, (hb g (by rw [e1]; rfl)).1.trans e3, e4⟩
    · obtain ⟨u, hu, hr⟩ := h2.2.2 k j x y hk hj
      exact ⟨u, hu, hr.mono hF⟩
  | mp es =>
    obtain ⟨r, ms, ck, rfl, h1, h2⟩ := hr
    exact ⟨r, ms, ck, rfl, (hb r rfl).1.trans h1, h2⟩

theorem St.none_of_size {F : Fz} {ν : Nu} {M : Mem} {w : World} (h : St F ν M w) {b : Nat} (hb : w.heap.size ≤ b) (o : Nat) : F b o = none := by
  cases hf : F b o with
  | none => rfl
  | some v =>
    have := World.block_lt_of_cell? w _ (h.fz b o v hf)
    simp at this; omega

theorem ER.lt {F : Fz} {ν : Nu} {w : World} {h : Value} {e : Ent} (hr : ER F ν w h e) {b : Nat} (hb : blk h = some b) : b < w.heap.size := by
  have key : ∀ {x : Obj}, w.heap[b]? = some x → b < w.heap.size := by
    intro x hx
    rcases Nat.lt_or_ge b w.heap.size with h' | h'
    · exact h'
    · simp [Array.getElem?_eq_none h'] at hx
  cases e with
  | var cells => obtain ⟨b', cs, ty, rfl, h1, _⟩ := hr; simp [blk] at hb; subst hb; exact key h1
  | arr wr e sz xs =>
    obtain ⟨h0, us, h1, h2, h3⟩ := hr
    rcases h1.2 with ⟨rfl, _⟩ | ⟨g, cap, cur, rfl, e2, e3, e4⟩
    · simp [blk] at hb
    · simp [blk] at hb; subst hb; exact key e3
  | mp es => obtain ⟨r, ms, ck, rfl, h1, _⟩ := hr; simp [blk] at hb; subst hb; exact key h1

/-- A new block. -/
theorem St.alloc {F : Fz} {ν : Nu} {M : Mem} {w w1 : World} (h : St F ν M w) (o : Obj) (hw1 : w1.heap = w.heap) (s : Nat) (hd : Value) (e : Ent) (hM : M s = none)
    (hs : ∀ id d, M id = some d → d.says s = false) (hb : ∀ b, blk hd = some b → b = w.heap.size) (he : ER F (upN ν s hd) (w1.alloc o) hd e) :
    St F (upN ν s hd) (updM M [(s, some e)]) (w1.alloc o) := by
  have hsz : w1.heap.size = w.heap.size := by rw [hw1]
  have hold : ∀ b, b < w.heap.size → (w1.alloc o).heap[b]? = w.heap[b]? := fun b hb => by rw [heap_alloc_old w1 o b (by omega), hw1]
  refine ⟨fun b o' v hf => ?_, fun id d hid => ?_, fun i j d d' b hi hj hbi hbj => ?_⟩
  · have hc := h.fz b o' v hf
    have hlt := World.block_lt_of_cell? w _ hc
    rw [World.cell?_of_block (w := w) (a := ⟨b, o', none⟩) (hold b hlt)]
    exact hc
  · by_cases hids : id = s
    · subst hids; simp [updM] at hid; subst hid; simpa using he
    · simp [updM, hids] at hid
      rw [upN_other ν hd hids]
      refine (h.ents id d hid).mono (new := [s]) F.le_refl (fun i => ?_) (fun x hx => ?_) (fun b hbb => ?_)
      · by_cases hi : i = s
        · exact .inr (by simp [hi])
        · exact .inl (upN_other ν hd hi).symm
      · simp at hx; subst hx; exact hs id d hid
      · exact ⟨hold b ((h.ents id d hid).lt hbb), fun _ => rfl⟩
  · by_cases hi' : i = s
    · by_cases hj' : j = s
      · rw [hi', hj']
      · simp [updM, hj'] at hj
        rw [upN_other ν hd hj'] at hbj
        have := (h.ents j d' hj).lt hbj
        subst hi'; simp at hbi
        have := hb b hbi; omega
    · simp [updM, hi'] at hi
      rw [upN_other ν hd hi'] at hbi
      have hlt := (h.ents i d hi).lt hbi
      by_cases hj' : j = s
      · subst hj'; simp at hbj
        have := hb b hbj; omega
      · simp [updM, hj'] at hj
        rw [upN_other ν hd hj'] at hbj
        exact h.dist i j d d' b hi hj hbi hbj

theorem Ext.alloc {F : Fz} {ν : Nu} {M : Mem} {w w1 : World} (o : Obj) (hw1 : w1.heap = w.heap) (ho : w1.os = w.os) (ht : w1.tape = w.tape) (hu : w1.output = w.output) (s : Nat) (hd : Value) (e : Ent)
    (hb : ∀ b, blk hd = some b → b = w.heap.size) : Ext F ν M w F (upN ν s hd) (updM M [(s, some e)]) (w1.alloc o) := by
  have hsz : w1.heap.size = w.heap.size := by rw [hw1]
  refine ⟨ho, ht, hu, by simp [hsz], F.le_refl, fun b hb' _ => ⟨by rw [heap_alloc_old w1 o b (by omega), hw1], fun _ => rfl⟩, fun id d b hid hbb => ?_⟩
  by_cases hids : id = s
  · subst hids; simp at hbb; exact .inr (by rw [hb b hbb]; exact Nat.le_refl _)
  · simp [updM, hids] at hid
    rw [upN_other ν hd hids] at hbb
    exact .inl ⟨id, d, hid, hbb⟩

/-- A block of the call's own is written. -/
theorem St.write {F : Fz} {ν : Nu} {M : Mem} {w w' : World} (h : St F ν M w) (id : Nat) (d e : Ent) (b : Nat) (hM : M id = some d) (hb : blk (ν id) = some b) (hF : ∀ o, F b o = none)
    (hk : ∀ k, k ≠ b → w'.heap[k]? = w.heap[k]?) (he : ER F ν w' (ν id) e) : St F ν (updM M [(id, some e)]) w' := by
  refine ⟨fun b' o v hf => ?_, fun i x hi => ?_, fun i j x y b' hi hj hbi hbj => ?_⟩
  · have hne : b' ≠ b := fun e => by subst e; rw [hF] at hf; cases hf
    rw [World.cell?_of_block (w := w) (a := ⟨b', o, none⟩) (hk b' hne)]
    exact h.fz b' o v hf
  · by_cases hii : i = id
    · subst hii; simp [updM] at hi; subst hi; exact he
    · simp [updM, hii] at hi
      refine (h.ents i x hi).mono (new := []) F.le_refl (fun _ => .inl rfl) (by simp) (fun b' hbb => ?_)
      have hne : b' ≠ b := fun e => hii (by subst e; exact h.dist i id x d b' hi hM hbb hb)
      exact ⟨hk b' hne, fun _ => rfl⟩
  · have get : ∀ i x, updM M [(id, some e)] i = some x → ∃ y, M i = some y := by
      intro i x hi
      by_cases hii : i = id
      · exact ⟨d, by rw [hii]; exact hM⟩
      · simp [updM, hii] at hi; exact ⟨x, hi⟩
    obtain ⟨x', hx⟩ := get i x hi
    obtain ⟨y', hy⟩ := get j y hj
    exact h.dist i j x' y' b' hx hy hbi hbj

theorem Ext.write {F : Fz} {ν : Nu} {M : Mem} {w w' : World} (id : Nat) (d e : Ent) (b : Nat) (hM : M id = some d) (hb : blk (ν id) = some b)
    (hk : ∀ k, k ≠ b → w'.heap[k]? = w.heap[k]?) (hs : w.heap.size ≤ w'.heap.size) (ho : w'.os = w.os) (ht : w'.tape = w.tape) (hu : w'.output = w.output) : Ext F ν M w F ν (updM M [(id, some e)]) w' := by
  refine ⟨ho, ht, hu, hs, F.le_refl, fun b' _ hn => ⟨hk b' fun e => hn id d hM (by rw [hb, e]), fun _ => rfl⟩, fun i x b' hi hbb => ?_⟩
  by_cases hii : i = id
  · subst hii; exact .inl ⟨i, d, hM, hbb⟩
  · simp [updM, hii] at hi; exact .inl ⟨i, x, hi, hbb⟩

/-- An operation that leaves the world alone. -/
theorem OpT.pure {P : Program} {o : Oper} {ins : List (Operand × PV)} {mem : List (Nat × Ent)} {pv : PV}
    (h : ∀ (a : Act) (w : World) (F : Fz) (ν : Nu) (M : Mem), St F ν M w → (∀ x ∈ ins, VR F ν (a.eval x.1) x.2) → (∀ x ∈ mem, M x.1 = some x.2) →
      ∃ v, (execOp a.eval o).run P w = .ok (.value v) w ∧ VR F ν v pv) : OpT P o ins mem (some pv) [] [] := by
  intro a w F ν M hst hins hmem _ _ K Q hK
  obtain ⟨v, hr, hv⟩ := h a w F ν M hst hins hmem
  unfold Oper.wp Oper.upon
  rw [hr]
  exact hK v w F ν (fun p hp => by cases hp; exact hv) hst (Ext.refl F ν M w) (fun _ _ => rfl)

section
variable {P : Program} {o : Oper}

theorem OpT.move {x : Operand} {p : PV} (ho : o.op = .move x) : OpT P o [(x, p)] [] (some p) [] [] :=
  OpT.pure fun a w F ν M _ hi _ => ⟨a.eval x, by simp [execOp, ho], hi (x, p) (by simp)⟩
theorem OpT.assign {x : Operand} {p : PV} (ho : o.op = .assign x) : OpT P o [(x, p)] [] (some p) [] [] :=
  OpT.pure fun a w F ν M _ hi _ => ⟨a.eval x, by simp [execOp, ho], hi (x, p) (by simp)⟩

theorem VR.bool {F : Fz} {ν : Nu} {v : Value} {b : Bool} (h : VR F ν v (.c (.raw (.bool b)))) : v = .bool b := by simp only [VR, FR] at h; exact h.1
theorem VR.raw {F : Fz} {ν : Nu} {v u : Value} (h : VR F ν v (.c (.raw u))) : v = u := by simp only [VR, FR] at h; exact h.1
theorem VR.of_raw {F : Fz} {ν : Nu} {u : Value} (h : u.oneCell' = true) : VR F ν u (.c (.raw u)) := by simp [VR, FR, h]

theorem OpT.pick {c x y : Operand} {b : Bool} {p : PV} (ho : o.op = .pick c x y) : OpT P o [(c, .c (.raw (.bool b))), (if b then x else y, p)] [] (some p) [] [] :=
  OpT.pure fun a w F ν M _ hi _ => by
    have h1 := VR.bool (hi (c, .c (.raw (.bool b))) (by simp))
    have h2 := hi (if b then x else y, p) (by simp)
    refine ⟨a.eval (if b then x else y), ?_, h2⟩
    cases b <;> simp [execOp, ho, h1, asBool]

/-- A type's table: is it a struct or an array, and how many cells has it. -/
structure TI (P : Program) (t : TypeId) (agg : Bool) (n : Nat) : Prop where
  desc : ∃ d, P.underlying t = some d ∧ (match d with | .struct _ | .array _ _ => true | _ => false) = agg
  size : (P.info? t).map (·.size) = some n

theorem TI.isAgg {t : TypeId} {agg : Bool} {n : Nat} (h : TI P t agg n) (w : World) : (isAgg t).run P w = .ok agg w := by
  obtain ⟨d, hd, ha⟩ := h.desc
  unfold Go.isAgg
  rw [Sem.run_bind, run_underlying hd w]
  cases d <;> simp_all
theorem TI.sizeOf {t : TypeId} {agg : Bool} {n : Nat} (h : TI P t agg n) (w : World) : (Go.sizeOf t).run P w = .ok n w := by
  have := h.size
  cases hq : P.info? t with
  | none => simp [hq] at this
  | some i => simp [hq] at this; simp [Go.sizeOf, typeInfo, hq, this]

theorem add_flat (b o k : Nat) : (⟨b, o, none⟩ : Addr).add k = ⟨b, o + k, none⟩ := by unfold Addr.add; split <;> simp_all

/-- Cells that are known are loaded. -/
theorem run_loadVar {t : TypeId} {agg : Bool} {n : Nat} (ht : TI P t agg n) (w : World) (b off : Nat) (us : List Value) (hl : us.length = n) (hn : agg = false → n = 1)
    (hc : ∀ j u, us[j]? = some u → w.cell? ⟨b, off + j, none⟩ = some u) : (loadVar t ⟨b, off, none⟩).run P w = .ok (if agg then .agg us.toArray else us.headD undef) w := by
  cases agg with
  | true =>
    have := run_loadCells_list (P := P) w ⟨b, off, none⟩ us (fun j v hv => by rw [add_flat]; exact hc j v hv)
    rw [hl] at this
    simp [loadVar, ht.isAgg, ht.sizeOf, this]
  | false =>
    have h1 := hn rfl
    subst h1
    match us, hl with
    | [u], _ =>
      have := hc 0 u (by simp)
      simp at this
      simp [loadVar, ht.isAgg, this]

theorem VR.ptr {F : Fz} {ν : Nu} {v : Value} {id off : Nat} (h : VR F ν v (.ptr id off)) : ∃ b, ν id = .pointer (some ⟨b, 0, none⟩) ∧ v = .pointer (some ⟨b, off, none⟩) := by simpa only [VR] using h

theorem ER.var {F : Fz} {ν : Nu} {w : World} {h : Value} {cells : List PV} (hr : ER F ν w h (.var cells)) : ∃ b cs ty, h = .pointer (some ⟨b, 0, none⟩) ∧ w.heap[b]? = some (.cells cs ty (0, 0)) ∧ (∀ u ∈ cs.toList, u.oneCell' = true) ∧ VRs F ν cs.toList cells ∧ ∀ o, F b o = none := hr

theorem OpT.loadAgg {t : TypeId} {x : Operand} {id off n : Nat} {cells ps : List PV} (ho : o.op = .load t x) (ht : TI P t true n) (hps : (cells.drop off).take n = ps) (hlen : ps.length = n) :
    OpT P o [(x, .ptr id off)] [(id, .var cells)] (some (.agg ps)) [] [] :=
  OpT.pure fun a w F ν M hst hi hm => by
    obtain ⟨b, hb, hv⟩ := VR.ptr (hi (x, .ptr id off) (by simp))
    obtain ⟨b', cs, ty, h1, h2, h3, h4, h5⟩ := (hst.ents id _ (hm (id, .var cells) (by simp))).var
    rw [hb] at h1; injection h1 with h1; injection h1 with h1; injection h1 with h1; subst h1
    have hvs := (h4.drop off).take n
    rw [hps] at hvs
    refine ⟨.agg ((cs.toList.drop off).take n).toArray, ?_, ?_⟩
    · have := run_loadVar ht w b off ((cs.toList.drop off).take n) (by rw [hvs.length, hlen]) (by simp) (fun j u hu => by
        rw [cell_of_row w b _ cs ty _ h2]
        rw [List.getElem?_take] at hu
        by_cases hj : j < n
        · simp only [hj, if_true, List.getElem?_drop] at hu; simpa using hu
        · simp [hj] at hu)
      simp [execOp, ho, hv, Instr.loadAt, Instr.sureAddr, this]
    · simp only [VR]; exact ⟨_, rfl, hvs⟩

theorem OpT.load {t : TypeId} {x : Operand} {id off : Nat} {cells : List PV} {p : PV} (ho : o.op = .load t x) (ht : TI P t false 1) (hp : cells[off]? = some p) :
    OpT P o [(x, .ptr id off)] [(id, .var cells)] (some p) [] [] :=
  OpT.pure fun a w F ν M hst hi hm => by
    obtain ⟨b, hb, hv⟩ := VR.ptr (hi (x, .ptr id off) (by simp))
    obtain ⟨b', cs, ty, h1, h2, h3, h4, h5⟩ := (hst.ents id _ (hm (id, .var cells) (by simp))).var
    rw [hb] at h1; injection h1 with h1; injection h1 with h1; injection h1 with h1; subst h1
    obtain ⟨u, hu, hr⟩ := h4.get hp
    refine ⟨u, ?_, hr⟩
    have := run_loadVar ht w b off [u] rfl (by simp) (fun j u' hu' => by
      rw [cell_of_row w b _ cs ty _ h2]
      cases j with
      | zero => simp at hu'; subst hu'; simpa using hu
      | succ j => simp at hu')
    simp [execOp, ho, hv, Instr.loadAt, Instr.sureAddr, this]

theorem VRs.of_cells {F : Fz} {ν : Nu} {b o : Nat} {xs : List FV} (h : FRcells F b o xs) : ∃ us : List Value, us.length = xs.length ∧ (∀ j u, us[j]? = some u → F b (o + j) = some u) ∧ VRs F ν us (xs.map .c) := by
  induction xs generalizing o with
  | nil => exact ⟨[], rfl, by simp, by simp [VRs]⟩
  | cons x xs ih =>
    simp only [FRcells] at h
    obtain ⟨⟨u, h1, h2⟩, h3⟩ := h
    obtain ⟨us, e1, e2, e3⟩ := ih h3
    refine ⟨u :: us, by simp [e1], fun j v hv => ?_, ?_⟩
    · cases j with
      | zero => simp at hv; subst hv; simpa using h1
      | succ j => have := e2 j v (by simpa using hv); rwa [show o + 1 + j = o + (j + 1) by omega] at this
    · simp only [List.map_cons, VRs, VR]; exact ⟨u, us, rfl, h2, e3⟩

theorem OpT.loadAggF {t : TypeId} {x : Operand} {n : Nat} {cells ys : List FV} (ho : o.op = .load t x) (ht : TI P t true n) (hys : cells.take n = ys) (hlen : ys.length = n) :
    OpT P o [(x, .fptr cells)] [] (some (.agg (ys.map .c))) [] [] :=
  OpT.pure fun a w F ν M hst hi hm => by
    have h := hi (x, .fptr cells) (by simp)
    simp only [VR] at h
    obtain ⟨b, off, hv, hc⟩ := h
    obtain ⟨us, e1, e2, e3⟩ := VRs.of_cells (ν := ν) hc
    have e4 := e3.take n
    rw [← List.map_take, hys] at e4
    refine ⟨.agg (us.take n).toArray, ?_, by simp only [VR]; exact ⟨_, rfl, e4⟩⟩
    have := run_loadVar ht w b off (us.take n) (by rw [e4.length]; simpa using hlen) (by simp) (fun j u hu => by
      rw [List.getElem?_take] at hu
      by_cases hj : j < n
      · simp only [hj, if_true] at hu; exact hst.fz _ _ _ (e2 j u hu)
      · simp [hj] at hu)
    simp [execOp, ho, hv, Instr.loadAt, Instr.sureAddr, this]

theorem OpT.loadF {t : TypeId} {x : Operand} {y : FV} {ys : List FV} (ho : o.op = .load t x) (ht : TI P t false 1) :
    OpT P o [(x, .fptr (y :: ys))] [] (some (.c y)) [] [] :=
  OpT.pure fun a w F ν M hst hi hm => by
    have h := hi (x, .fptr (y :: ys)) (by simp)
    simp only [VR, FRcells] at h
    obtain ⟨b, off, hv, ⟨u, hu, hr⟩, _⟩ := h
    refine ⟨u, ?_, by simpa only [VR] using hr⟩
    have := run_loadVar ht w b off [u] rfl (by simp) (fun j u' hu' => by
      cases j with
      | zero => simp at hu'; subst hu'; exact hst.fz _ _ _ (by simpa using hu)
      | succ j => simp at hu')
    simp [execOp, ho, hv, Instr.loadAt, Instr.sureAddr, this]

/-- A struct's field: where it lies. -/
structure FI (P : Program) (s : TypeId) (f off : Nat) : Prop where
  field : ∃ fs fd i, P.underlying s = some (.struct fs) ∧ fs[f]? = some fd ∧ fd.offset = off ∧ P.info? fd.type = some i ∧ i.size ≠ 0

theorem run_fieldAt {s : TypeId} {f off : Nat} (h : FI P s f off) (w : World) (b o : Nat) : (Instr.fieldAt s (.pointer (some ⟨b, o, none⟩)) f).run P w = .ok (.pointer (some ⟨b, o + off, none⟩)) w := by
  obtain ⟨fs, fd, i, h1, h2, rfl, h4, h5⟩ := h.field
  simp [Instr.fieldAt, run_underlying h1, h2, Instr.sureAddr, fieldPlace, sizeOf, typeInfo, h4, h5, add_flat]

theorem OpT.fieldAddr {s : TypeId} {x : Operand} {f off id k : Nat} (ho : o.op = .fieldAddr s x f) (hf : FI P s f off) : OpT P o [(x, .ptr id k)] [] (some (.ptr id (k + off))) [] [] :=
  OpT.pure fun a w F ν M hst hi hm => by
    obtain ⟨b, hb, hv⟩ := VR.ptr (hi (x, .ptr id k) (by simp))
    exact ⟨.pointer (some ⟨b, k + off, none⟩), by simp [execOp, ho, hv, run_fieldAt hf], by simp only [VR]; exact ⟨b, hb, rfl⟩⟩

theorem OpT.fieldAddrF {s : TypeId} {x : Operand} {f off : Nat} {cells ys : List FV} (ho : o.op = .fieldAddr s x f) (hf : FI P s f off) (hd : cells.drop off = ys) : OpT P o [(x, .fptr cells)] [] (some (.fptr ys)) [] [] :=
  OpT.pure fun a w F ν M hst hi hm => by
    have h := hi (x, .fptr cells) (by simp)
    simp only [VR] at h
    obtain ⟨b, k, hv, hc⟩ := h
    subst hd
    exact ⟨.pointer (some ⟨b, k + off, none⟩), by simp [execOp, ho, hv, run_fieldAt hf], by simp only [VR]; exact ⟨b, k + off, rfl, hc.drop off⟩⟩

theorem OpT.nilCheck {x : Operand} {p : PV} (ho : o.op = .nilCheck x) (hp : (match p with | .ptr _ _ | .fptr _ | .aptr _ _ _ _ => true | _ => false) = true) : OpT P o [(x, p)] [] (some p) [] [] :=
  OpT.pure fun a w F ν M hst hi hm => by
    have h := hi (x, p) (by simp)
    refine ⟨a.eval x, ?_, h⟩
    have : ∃ b, a.eval x = .pointer (some b) := by
      cases p <;> simp at hp <;> simp only [VR] at h
      · obtain ⟨b, _, hv⟩ := h; exact ⟨_, hv⟩
      · obtain ⟨b, o, hv, _⟩ := h; exact ⟨_, hv⟩
      · obtain ⟨b, n, cp, _, hv⟩ := h; exact ⟨_, hv⟩
    obtain ⟨b, hb⟩ := this
    simp [execOp, ho, hb]

/-- A slice's type: its elements' type and how many cells one has. -/
structure SI (P : Program) (t e : TypeId) (sz : Nat) : Prop where
  desc : P.underlying t = some (.slice e)
  size : (P.info? e).map (·.size) = some sz

theorem SI.sizeOf {t e : TypeId} {n : Nat} (h : SI P t e n) (w : World) : (Go.sizeOf e).run P w = .ok n w := by
  have := h.size
  cases hq : P.info? e with
  | none => simp [hq] at this
  | some i => simp [hq] at this; simp [Go.sizeOf, typeInfo, hq, this]

theorem OpT.indexF {t e : TypeId} {x ix : Operand} {sz : Nat} {xs : List (List FV)} {k : IntKind} {n : Int} {cs : List FV} (ho : o.op = .indexAddr t x ix) (hs : SI P t e sz)
    (h0 : 0 ≤ n) (hx : xs[n.toNat]? = some cs) (hl : cs.length = sz) : OpT P o [(x, .c (.sl xs)), (ix, .c (.raw (.int k n)))] [] (some (.fptr cs)) [] [] :=
  OpT.pure fun a w F ν M hst hi hm => by
    have h1 := hi (x, .c (.sl xs)) (by simp)
    have h2 := VR.raw (hi (ix, .c (.raw (.int k n))) (by simp))
    simp only [VR, FR] at h1
    obtain ⟨ad, c, hv, hc, _, _, hr⟩ := h1
    have hlt : n.toNat < xs.length := by
      rcases Nat.lt_or_ge n.toNat xs.length with h | h
      · exact h
      · simp [List.getElem?_eq_none h] at hx
    rcases hr with rfl | ⟨b, off, sz', rfl, hr⟩
    · simp at hlt
    · have hg := hr.get hx
      have hsz : sz' = sz := by rw [← hg.1, hl]
      subst hsz
      refine ⟨.pointer (some ⟨b, off + n.toNat * sz', none⟩), ?_, by simp only [VR]; exact ⟨b, _, rfl, hg.2⟩⟩
      have hb : 0 ≤ n ∧ n < (xs.length : Int) := ⟨h0, by omega⟩
      simp [execOp, ho, hv, h2, Instr.indexAt, asIntOf, run_underlying hs.desc, hb, hs.sizeOf, add_flat]

theorem OpT.indexO {t e e' : TypeId} {x ix : Operand} {id sz : Nat} {xs : List (List FV)} {k : IntKind} {n : Int} (ho : o.op = .indexAddr t x ix) (hs : SI P t e sz)
    (h0 : 0 ≤ n) (hlt : n.toNat < xs.length) : OpT P o [(x, .osl id), (ix, .c (.raw (.int k n)))] [(id, .arr wr e' sz xs)] (some (.aptr id sz n.toNat 0)) [] [] :=
  OpT.pure fun a w F ν M hst hi hm => by
    have h1 := hi (x, .osl id) (by simp)
    have h2 := VR.raw (hi (ix, .c (.raw (.int k n))) (by simp))
    simp only [VR] at h1
    obtain ⟨hz, us, ho1, hr, _⟩ := hst.ents id _ (hm (id, .arr wr e' sz xs) (by simp))
    rcases ho1.2 with ⟨_, h3⟩ | ⟨g, cap, cur, hv, _⟩
    · omega
    · rw [hv] at h1
      replace h1 := h1.1
      refine ⟨.pointer (some ⟨g, n.toNat * sz, none⟩), ?_, by simp only [VR]; exact ⟨g, _, _, hv, rfl⟩⟩
      have hb : 0 ≤ n ∧ n < (xs.length : Int) := ⟨h0, by omega⟩
      simp [execOp, ho, h1, h2, Instr.indexAt, asIntOf, run_underlying hs.desc, hb, hs.sizeOf, add_flat]
end
end Go.Ab
