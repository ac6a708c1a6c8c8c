/- Simple operations, reckoned: a function from an operation and a state to the state behind it. Conditions: none. -/
import Derived.Test.YtiojahpkaogigaaGreatDoorAb17
namespace Go.Ab

/-- What the program says of types, as tables. -/
structure Tab where
  ti : TypeId → Option (Bool × Nat)
  fi : TypeId → Nat → Option Nat
  zi : TypeId → Option (List Value)
structure TabOK (P : Program) (T : Tab) : Prop where
  ti : ∀ t a n, T.ti t = some (a, n) → TI P t a n
  fi : ∀ s f off, T.fi s f = some off → FI P s f off
  zi : ∀ t zs, T.zi t = some zs → ZI P t zs

/-- What an operation looks at and leaves. -/
structure Eff where
  ins : List (Operand × PV)
  mem : List (Nat × Ent)
  pv : Option PV
  upd : MemL
  new : List Nat

def loadP (T : Tab) (t : TypeId) (m : MemL) : PV → Option (PV × List (Nat × Ent))
  | .ptr id off => match look m id with
    | some (.var cells) => match T.ti t with
      | some (true, n) => if ((cells.drop off).take n).length = n then some (.agg ((cells.drop off).take n), [(id, .var cells)]) else none
      | some (false, 1) => match cells[off]? with
        | some p => some (p, [(id, .var cells)])
        | none => none
      | _ => none
    | _ => none
  | .fptr cells => match T.ti t with
    | some (true, n) => if (cells.take n).length = n then some (.agg ((cells.take n).map .c), []) else none
    | some (false, 1) => match cells with
      | y :: _ => some (.c y, [])
      | [] => none
    | _ => none
  | _ => none
def addrP (off : Nat) : PV → Option PV
  | .ptr id k => some (.ptr id (k + off))
  | .fptr cells => some (.fptr (cells.drop off))
  | .aptr id sz i k => some (.aptr id sz i (k + off))
  | _ => none

def effA (T : Tab) (Γ : Gl) (o : Oper) (r : Regs) (m : MemL) (s : Nat) : Option Eff :=
  match o.op with
  | .move x | .assign x => match opP Γ r x with
    | some p => some ⟨[(x, p)], [], some p, [], []⟩
    | none => none
  | .load t x => match opP Γ r x with
    | some q => match loadP T t m q with
      | some (p, mem) => some ⟨[(x, q)], mem, some p, [], []⟩
      | none => none
    | none => none
  | .fieldAddr t x f => match opP Γ r x with
    | some q => match T.fi t f with
      | some off => match addrP off q with
        | some p => some ⟨[(x, q)], [], some p, [], []⟩
        | none => none
      | none => none
    | none => none
  | .extract x k => match opP Γ r x with
    | some (.tup xs) => match xs[k]? with
      | some p => some ⟨[(x, .tup xs)], [], some p, [], []⟩
      | none => none
    | _ => none
  | .nilCheck x => match opP Γ r x with
    | some (.ptr id off) => some ⟨[(x, .ptr id off)], [], some (.ptr id off), [], []⟩
    | some (.fptr c) => some ⟨[(x, .fptr c)], [], some (.fptr c), [], []⟩
    | _ => none
  | .pick c x y => match opP Γ r c with
    | some (.c (.raw (.bool true))) => match opP Γ r x with
      | some p => some ⟨[(c, .c (.raw (.bool true))), (x, p)], [], some p, [], []⟩
      | none => none
    | some (.c (.raw (.bool false))) => match opP Γ r y with
      | some p => some ⟨[(c, .c (.raw (.bool false))), (y, p)], [], some p, [], []⟩
      | none => none
    | _ => none
  | .box _ x => match opP Γ r x with
    | some p => if p.flat = true ∧ PV.saysL s p.cells = false then some ⟨[(x, p)], [], some (.ptr s 0), [(s, some (.var p.cells))], [s]⟩ else none
    | none => none
  | .store t ad x => match opP Γ r ad, opP Γ r x with
    | some (.ptr id off), some p => match look m id, T.ti t with
      | some (.var cells), some (_, n) => if p.cells.length = n ∧ p.flat = true ∧ off + n ≤ cells.length then some ⟨[(ad, .ptr id off), (x, p)], [(id, .var cells)], none, [(id, some (.var (splice cells off p.cells)))], []⟩ else none
      | _, _ => none
    | _, _ => none
  | .alloc t => match T.zi t with
    | some zs => some ⟨[], [], some (.ptr s 0), [(s, some (.var (zs.map fun v => .c (.raw v))))], [s]⟩
    | none => none
  | _ => none

theorem effA_ok {P : Program} {T : Tab} (hT : TabOK P T) {Γ : Gl} {o : Oper} {r : Regs} {m : MemL} {s : Nat} {e : Eff} (h : effA T Γ o r m s = some e) : OpTG P Γ o e.ins e.mem e.pv e.upd e.new ∧ InsOK Γ r e.ins ∧ MemOK m e.mem := by
  unfold effA at h
  split at h
  · rename_i x ho
    split at h
    · rename_i p hp; cases h; exact ⟨(OpT.move ho).g, ⟨⟨_, hp, Le.same⟩, trivial⟩, trivial⟩
    · cases h
  · rename_i x ho
    split at h
    · rename_i p hp; cases h; exact ⟨(OpT.assign ho).g, ⟨⟨_, hp, Le.same⟩, trivial⟩, trivial⟩
    · cases h
  · rename_i t x ho
    split at h
    · rename_i q hq
      split at h
      · rename_i p mem hl
        cases h
        unfold loadP at hl
        split at hl
        · rename_i id off
          split at hl
          · rename_i cells hm
            split at hl
            · rename_i n ht
              split at hl
              · rename_i hn; cases hl; exact ⟨(OpT.loadAgg ho (hT.ti _ _ _ ht) rfl hn).g, ⟨⟨_, hq, Le.same⟩, trivial⟩, ⟨hm, trivial⟩⟩
              · cases hl
            · rename_i ht
              split at hl
              · rename_i p hp; cases hl; exact ⟨(OpT.load ho (hT.ti _ _ _ ht) hp).g, ⟨⟨_, hq, Le.same⟩, trivial⟩, ⟨hm, trivial⟩⟩
              · cases hl
            · cases hl
          · cases hl
        · rename_i cells
          split at hl
          · rename_i n ht
            split at hl
            · rename_i hn; cases hl; exact ⟨(OpT.loadAggF ho (hT.ti _ _ _ ht) rfl hn).g, ⟨⟨_, hq, Le.same⟩, trivial⟩, trivial⟩
            · cases hl
          · rename_i ht
            split at hl
            · cases hl; exact ⟨(OpT.loadF ho (hT.ti _ _ _ ht)).g, ⟨⟨_, hq, Le.same⟩, trivial⟩, trivial⟩
            · cases hl
          · cases hl
        · cases hl
      · cases h
    · cases h
  · rename_i t x f ho
    split at h
    · rename_i q hq
      split at h
      · rename_i off hf
        split at h
        · rename_i p hp
          cases h
          unfold addrP at hp
          split at hp <;> first
            | (cases hp; exact ⟨(OpT.fieldAddr ho (hT.fi _ _ _ hf)).g, ⟨⟨_, hq, Le.same⟩, trivial⟩, trivial⟩)
            | (cases hp; exact ⟨(OpT.fieldAddrF ho (hT.fi _ _ _ hf) rfl).g, ⟨⟨_, hq, Le.same⟩, trivial⟩, trivial⟩)
            | (cases hp; exact ⟨(OpT.fieldAddrA ho (hT.fi _ _ _ hf)).g, ⟨⟨_, hq, Le.same⟩, trivial⟩, trivial⟩)
            | cases hp
        · cases h
      · cases h
    · cases h
  · rename_i x k ho
    split at h
    · rename_i xs hx
      split at h
      · rename_i p hp; cases h; exact ⟨(OpT.extract ho hp).g, ⟨⟨_, hx, Le.same⟩, trivial⟩, trivial⟩
      · cases h
    · cases h
  · rename_i x ho
    split at h
    · rename_i id off hx; cases h; exact ⟨(OpT.nilCheck ho rfl).g, ⟨⟨_, hx, Le.same⟩, trivial⟩, trivial⟩
    · rename_i c hx; cases h; exact ⟨(OpT.nilCheck ho rfl).g, ⟨⟨_, hx, Le.same⟩, trivial⟩, trivial⟩
    · cases h
  · rename_i c x y ho
    split at h
    · rename_i hc
      split at h
      · rename_i p hp; cases h; exact ⟨(OpT.pick (b := true) ho).g, ⟨⟨_, hc, Le.same⟩, ⟨_, hp, Le.same⟩, trivial⟩, trivial⟩
      · cases h
    · rename_i hc
      split at h
      · rename_i p hp; cases h; exact ⟨(OpT.pick (b := false) ho).g, ⟨⟨_, hc, Le.same⟩, ⟨_, hp, Le.same⟩, trivial⟩, trivial⟩
      · cases h
    · cases h
  · rename_i t x ho
    split at h
    · rename_i p hp
      split at h
      · rename_i hc; cases h; exact ⟨(OpT.box ho hc.1 rfl hc.2).g, ⟨⟨_, hp, Le.same⟩, trivial⟩, trivial⟩
      · cases h
    · cases h
  · rename_i t ad x ho
    split at h
    · rename_i id off p ha hx
      split at h
      · rename_i cells a n hm ht
        split at h
        · rename_i hc; cases h; exact ⟨(OpT.store ho (hT.ti _ _ _ ht).size hc.1 hc.2.1 hc.2.2 rfl).g, ⟨⟨_, ha, Le.same⟩, ⟨_, hx, Le.same⟩, trivial⟩, ⟨hm, trivial⟩⟩
        · cases h
      · cases h
    · cases h
  · rename_i t ho
    split at h
    · rename_i zs hz
      cases h
      obtain ⟨i, z, h1, h2, h3, _⟩ := (hT.zi _ _ hz).zero
      exact ⟨(OpT.alloc ho h1 h2 h3 (hT.zi _ _ hz).one).g, trivial, trivial⟩
    · cases h
  · cases h

/-- Is an operation wanted? -/
def wantsA (ops : Array Oper) (r : Regs) (o : Oper) : Option Bool :=
  match o.guard with
  | none => some true
  | some (j, want) => match (ops[j]?).bind (·.dst) with
    | some d => match lookR r d with
      | some (.c (.raw (.bool g))) => some (g == want)
      | some (.tup []) => some false
      | _ => none
    | none => none
theorem wantsA_ok {ops : Array Oper} {r : Regs} {o : Oper} {b : Bool} (h : wantsA ops r o = some b) : wants ops r o b := by
  unfold wantsA at h
  unfold wants
  split at h
  · rename_i hg; simp only [hg]; cases h; rfl
  · rename_i j want hg
    simp only [hg]
    split at h
    · rename_i d hd
      split at h
      · rename_i g hr; cases h; exact ⟨d, _, hd, hr, rfl⟩
      · rename_i hr; cases h; exact ⟨d, _, hd, hr, rfl⟩
      · cases h
    · cases h

structure RS where
  r : Regs
  m : MemL
  s : Nat
def dstB (N : Nat) : Option Tmp → Bool
  | some d => d < N
  | none => true
/-- One operation: what it leaves, and the state behind it. -/
def stepA (T : Tab) (Γ : Gl) (N : Nat) (CM : MemL) (ops : Array Oper) (o : Oper) (a : RS) : Option (Info × RS) :=
  match wantsA ops a.r o with
  | some true => match effA T Γ o a.r a.m a.s with
    | some e => if fresh CM a.m a.r e.new && dstB N o.dst then some (⟨insT e.ins ++ guardT ops o, e.mem.map (·.1), o.dst, e.pv, e.upd, e.new⟩, ⟨setR a.r o.dst e.pv, e.upd ++ a.m, a.s + e.new.length⟩) else none
    | none => none
  | some false => if dstB N o.dst then some (⟨guardT ops o, [], o.dst, some (.tup []), [], []⟩, ⟨setR a.r o.dst (some (.tup [])), a.m, a.s⟩) else none
  | none => none
def runOK (T : Tab) (Γ : Gl) (N : Nat) (CM : MemL) (ops : Array Oper) : Nat → List Oper → RS → Bool
  | 0, _, _ => true
  | _ + 1, [], _ => false
  | n + 1, o :: l, a => match stepA T Γ N CM ops o a with
    | some (_, b) => runOK T Γ N CM ops n l b
    | none => false
def runS (T : Tab) (Γ : Gl) (N : Nat) (CM : MemL) (ops : Array Oper) : Nat → List Oper → RS → RS
  | n + 1, o :: l, a => match stepA T Γ N CM ops o a with
    | some (_, b) => runS T Γ N CM ops n l b
    | none => a
  | _, _, a => a
def runI (T : Tab) (Γ : Gl) (N : Nat) (CM : MemL) (ops : Array Oper) : Nat → List Oper → RS → List Info
  | n + 1, o :: l, a => match stepA T Γ N CM ops o a with
    | some (i, b) => i :: runI T Γ N CM ops n l b
    | none => []
  | _, _, _ => []

section
variable {C : Cx} {T : Tab} {ops : Array Oper} {Q : Post}
theorem dstB_ok {d : Option Tmp} (h : dstB C.n d = true) : dstOK C d = true := h
theorem AOps.auto (hT : TabOK C.P T) : ∀ (n : Nat) {l : List Oper} {r : Regs} {m : MemL} (s : Nat), runOK T C.Γ C.n C.M ops n l ⟨r, m, s⟩ = true → AOps C ops (l.drop n) (runS T C.Γ C.n C.M ops n l ⟨r, m, s⟩).r (runS T C.Γ C.n C.M ops n l ⟨r, m, s⟩).m Q → AOps C ops l r m Q
  | 0, l, r, m, s, _, h => by simpa [runS] using h
  | n + 1, [], r, m, s, ho, _ => by simp [runOK] at ho
  | n + 1, o :: l, r, m, s, ho, h => by
    simp only [runOK] at ho
    simp only [runS, List.drop_succ_cons] at h
    split at ho
    · rename_i i b hs
      simp only [hs] at h
      unfold stepA at hs
      split at hs
      · rename_i hw
        split at hs
        · rename_i e he
          split at hs
          · rename_i hc
            simp only [Bool.and_eq_true] at hc
            cases hs
            obtain ⟨h1, h2, h3⟩ := effA_ok hT he
            exact AOps.step h1 (wantsA_ok hw) h2 h3 hc.1 (dstB_ok hc.2) (AOps.auto hT n _ ho h)
          · cases hs
        · cases hs
      · rename_i hw
        split at hs
        · rename_i hc
          cases hs
          exact AOps.skip (wantsA_ok hw) (dstB_ok hc) (AOps.auto hT n _ ho h)
        · cases hs
      · cases hs
    · cases ho
theorem Run.auto (hT : TabOK C.P T) : ∀ (n : Nat) {l : List Oper} {r r' : Regs} {m m' : MemL} {is : List Info} (s : Nat), runOK T C.Γ C.n C.M ops n l ⟨r, m, s⟩ = true → Run C ops (l.drop n) (runS T C.Γ C.n C.M ops n l ⟨r, m, s⟩).r (runS T C.Γ C.n C.M ops n l ⟨r, m, s⟩).m is r' m' → Run C ops l r m (runI T C.Γ C.n C.M ops n l ⟨r, m, s⟩ ++ is) r' m'
  | 0, l, r, r', m, m', is, s, _, h => by simpa [runS, runI] using h
  | n + 1, [], r, r', m, m', is, s, ho, _ => by simp [runOK] at ho
  | n + 1, o :: l, r, r', m, m', is, s, ho, h => by
    simp only [runOK] at ho
    simp only [runS, List.drop_succ_cons] at h
    simp only [runI]
    split at ho
    · rename_i i b hs
      simp only [hs] at h ⊢
      unfold stepA at hs
      split at hs
      · rename_i hw
        split at hs
        · rename_i e he
          split at hs
          · rename_i hc
            simp only [Bool.and_eq_true] at hc
            cases hs
            obtain ⟨h1, h2, h3⟩ := effA_ok hT he
            exact Run.run h1 (wantsA_ok hw) h2 h3 hc.1 (dstB_ok hc.2) (Run.auto hT n _ ho h)
          · cases hs
        · cases hs
      · rename_i hw
        split at hs
        · rename_i hc
          cases hs
          exact Run.skip (wantsA_ok hw) (dstB_ok hc) (Run.auto hT n _ ho h)
        · cases hs
      · cases hs
    · cases ho
end

/-- Tables as lists. -/
def lookT {α : Type} : List (Nat × α) → Nat → Option α
  | [], _ => none
  | (k, a) :: l, t => bif Nat.beq k t then some a else lookT l t
def allT {α : Type} (p : Nat → α → Prop) : List (Nat × α) → Prop
  | [] => True
  | (k, a) :: l => p k a ∧ allT p l
theorem lookT_all {α : Type} {p : Nat → α → Prop} : ∀ {l : List (Nat × α)} {t : Nat} {a : α}, allT p l → lookT l t = some a → p t a
  | [], t, a, _, h => by simp [lookT] at h
  | (k, b) :: l, t, a, ha, h => by
    simp only [lookT] at h
    cases hb : Nat.beq k t with
    | true => rw [hb] at h; cases h; rw [← Nat.eq_of_beq_eq_true hb]; exact ha.1
    | false => rw [hb] at h; exact lookT_all ha.2 h
def Tab.of (a : List (Nat × (Bool × Nat))) (b : List (Nat × Nat)) (c : List (Nat × List Value)) : Tab := ⟨lookT a, fun s f => bif Nat.blt f 100 then lookT b (s * 100 + f) else none, lookT c⟩
theorem TabOK.of {P : Program} {a : List (Nat × (Bool × Nat))} {b : List (Nat × Nat)} {c : List (Nat × List Value)} (ha : allT (fun t x => TI P t x.1 x.2) a) (hb : allT (fun k x => FI P (k / 100) (k % 100) x) b) (hc : allT (fun t zs => ZI P t zs) c) : TabOK P (Tab.of a b c) where
  ti := fun t x n h => lookT_all ha h
  fi := fun s f off h => by
    simp only [Tab.of] at h
    cases hf : Nat.blt f 100 with
    | false => rw [hf] at h; cases h
    | true =>
      rw [hf] at h
      have := lookT_all hb h
      have hlt : f < 100 := Nat.le_of_ble_eq_true hf
      have key : ∀ s f : Nat, f < 100 → (s * 100 + f) / 100 = s ∧ (s * 100 + f) % 100 = f := fun s f h => by omega
      have hk := key s f hlt
      rwa [hk.1, hk.2] at this
  zi := fun t zs h => lookT_all hc h

theorem lookR_mem : ∀ {r : Regs} {t : Nat} {p : PV}, lookR r t = some p → (t, some p) ∈ r
  | [], t, p, h => by simp [lookR] at h
  | (k, q) :: r, t, p, h => by
    simp only [lookR] at h
    split at h
    · rename_i e; subst e; subst h; exact List.mem_cons_self
    · exact List.mem_cons_of_mem _ (lookR_mem h)
theorem look_mem : ∀ {m : MemL} {i : Nat} {e : Ent}, look m i = some e → (i, some e) ∈ m
  | [], i, e, h => by simp [look, updM] at h
  | (k, q) :: m, i, e, h => by
    simp only [look, updM] at h
    split at h
    · rename_i ee; subst ee; subst h; exact List.mem_cons_self
    · exact List.mem_cons_of_mem _ (look_mem h)
/-- A state that tells less, by one reckoning. -/
theorem Sub.e {r r' : Regs} {m m' : MemL} (h1 : r'.map (fun x => lookR r x.1) = r'.map (·.2) := by kernel_rfl) (h2 : m'.map (fun x => look m x.1) = m'.map (·.2) := by kernel_rfl) : Sub r r' m m' :=
  ⟨fun t p h => ⟨p, (List.map_inj_left.1 h1) _ (lookR_mem h), Le.same⟩, fun i e h => ⟨e, (List.map_inj_left.1 h2) _ (look_mem h), LeE.same⟩⟩
end Go.Ab
