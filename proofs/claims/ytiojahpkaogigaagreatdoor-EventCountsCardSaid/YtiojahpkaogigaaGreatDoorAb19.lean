/- A reckoner: code run by a function of the proof language along a script of what each call, index, append comes to. Conditions: none. -/
import Derived.Test.YtiojahpkaogigaaGreatDoorAb18
namespace Go.Ab

/-- More of the program's tables. -/
structure Tb where
  t : Tab
  si : TypeId → Option (TypeId × Nat)
  ap : TypeId → Option (TypeId × Nat × Nat)
  bi : TypeId → Option (List Value × List (Nat × Nat))
  fg : TypeId → Nat → Option (Nat × TypeId)
  ik : TypeId → Option IntKind
  st : TypeId → Bool
  bo : TypeId → Bool
  ar : TypeId → Option (Nat × TypeId × Nat)
  ci : FuncId → Bool
structure TbOK (P : Program) (T : Tb) : Prop where
  t : TabOK P T.t
  si : ∀ t e n, T.si t = some (e, n) → SI P t e n
  ap : ∀ t e n b, T.ap t = some (e, n, b) → AT P t e n b
  bi : ∀ t zs pl, T.bi t = some (zs, pl) → BI P t zs pl
  fg : ∀ s f off ft, T.fg s f = some (off, ft) → FG P s f off ft
  ik : ∀ t k, T.ik t = some k → P.underlying t = some (.int k)
  st : ∀ t, T.st t = true → P.underlying t = some .string
  bo : ∀ t, T.bo t = true → P.underlying t = some .bool
  ar : ∀ t n e sz, T.ar t = some (n, e, sz) → P.underlying t = some (.array n e) ∧ (P.info? e).map (·.size) = some sz
  ci : ∀ f, T.ci f = true → CI P f

def strL (b : ByteArray) : List UInt8 := b.data.toList
theorem mkS_strL (b : ByteArray) : mkS (strL b) = b := by cases b; rfl

def sameK (a b : IntKind) : Bool := a == b
theorem sameK_eq {a b : IntKind} (h : sameK a b = true) : a = b := by
  unfold sameK at h; exact eq_of_beq h

/-- An operator on two plain values. -/
def binV (T : Tb) (op : BinOp) (t : TypeId) : Value → Value → Option Value
  | .int k a, .int k' b => bif sameK k k' then
      (match op with
      | .eql => some (.bool (decide (a = b)))
      | .neq => some (.bool (!decide (a = b)))
      | .lss => some (.bool (decide (a < b)))
      | .leq => some (.bool (decide (a ≤ b)))
      | .gtr => some (.bool (decide (b < a)))
      | .geq => some (.bool (decide (b ≤ a)))
      | .add => some (.int k (k.wrap (a + b)))
      | .sub => some (.int k (k.wrap (a - b)))
      | .mul => some (.int k (k.wrap (a * b)))
      | _ => none) else none
  | .string a, .string b => match op with
      | .eql => some (.bool (decide (strL a = strL b)))
      | .neq => some (.bool (!decide (strL a = strL b)))
      | .lss => some (.bool (Op.bytesLess (strL a) (strL b)))
      | .geq => some (.bool (!Op.bytesLess (strL a) (strL b)))
      | .leq => some (.bool (Op.bytesLess (strL a) (strL b) || decide (strL a = strL b)))
      | .gtr => some (.bool (!(Op.bytesLess (strL a) (strL b) || decide (strL a = strL b))))
      | _ => none
  | .bool a, .bool b => bif T.bo t then
      (match op with
      | .eql => some (.bool (a == b))
      | .neq => some (.bool (!(a == b)))
      | _ => none) else none
  | _, _ => none

theorem binV_ok {P : Program} {T : Tb} (hT : TbOK P T) {op : BinOp} {t : TypeId} {x y : Operand} {v1 v2 r : Value} (h : binV T op t v1 v2 = some r) :
    (∀ w, (do eqGuard op t x y v1 v2; binOp op t v1 v2 : Sem Value).run P w = .ok r w) ∧ r.oneCell' = true := by
  unfold binV at h
  split at h
  · rename_i k a k' b
    cases hk : sameK k k' with
    | false => rw [hk] at h; cases h
    | true =>
      have := sameK_eq hk
      subst this
      rw [hk] at h
      simp only [cond_true] at h
      split at h <;> first
        | (cases h; exact ⟨fun w => bin_eql k a b w, rfl⟩)
        | (cases h; exact ⟨fun w => bin_neq k a b w, rfl⟩)
        | (cases h; exact ⟨fun w => bin_lss k a b w, rfl⟩)
        | (cases h; exact ⟨fun w => bin_leq k a b w, rfl⟩)
        | (cases h; exact ⟨fun w => bin_gtr k a b w, rfl⟩)
        | (cases h; exact ⟨fun w => bin_geq k a b w, rfl⟩)
        | (cases h; exact ⟨fun w => bin_add k a b w, rfl⟩)
        | (cases h; exact ⟨fun w => bin_sub k a b w, rfl⟩)
        | (cases h; exact ⟨fun w => bin_mul k a b w, rfl⟩)
        | cases h
  · rename_i a b
    have ha := mkS_strL a
    have hb := mkS_strL b
    generalize strL a = la at h ha
    generalize strL b = lb at h hb
    subst ha; subst hb
    split at h <;> first
      | (cases h; exact ⟨fun w => bin_seql la lb w, rfl⟩)
      | (cases h; exact ⟨fun w => bin_sneq la lb w, rfl⟩)
      | (cases h; exact ⟨fun w => bin_slss la lb w, rfl⟩)
      | (cases h; exact ⟨fun w => bin_sgeq la lb w, rfl⟩)
      | (cases h; exact ⟨fun w => bin_sleq la lb w, rfl⟩)
      | (cases h; exact ⟨fun w => bin_sgtr la lb w, rfl⟩)
      | cases h
  · rename_i a b
    cases hb : T.bo t with
    | false => rw [hb] at h; cases h
    | true =>
      rw [hb] at h
      simp only [cond_true] at h
      split at h <;> first
        | (cases h; exact ⟨fun w => bin_beql (hT.bo _ hb) a b w, rfl⟩)
        | (cases h; exact ⟨fun w => bin_bneq (hT.bo _ hb) a b w, rfl⟩)
        | cases h
  · cases h

/-- What is told less: a nil slice as an empty one, where that is asked. -/
def isNil : PV → Bool
  | .c (.raw (.slice none 0 0)) => true
  | _ => false
mutual
def wkTo : PV → PV → PV
  | .c x, q => match x with
    | .sl _ => bif isNil q then .c (.sl []) else q
    | .raw _ => q
  | .agg es, q => match q with
    | .agg qs => .agg (wkL es qs)
    | q => q
  | .tup es, q => match q with
    | .tup qs => .tup (wkL es qs)
    | q => q
  | .ptr _ _, q => q
  | .fptr _, q => q
  | .osl _, q => q
  | .aptr _ _ _ _, q => q
  | .map _, q => q
  | .func _ _, q => q
def wkL : List PV → List PV → List PV
  | [], qs => qs
  | e :: es, qs => match qs with
    | q :: qs => wkTo e q :: wkL es qs
    | [] => []
end
theorem isNil_eq {q : PV} (h : isNil q = true) : q = .c (.raw (.slice none 0 0)) := by
  unfold isNil at h; split at h
  · rfl
  · cases h
mutual
theorem wkTo_le : ∀ (e q : PV), Le q (wkTo e q)
  | .c x, q => by
    cases x with
    | sl _ =>
      simp only [wkTo]
      cases h : isNil q with
      | true => simp only [cond_true]; rw [isNil_eq h]; exact Le.nil
      | false => exact Le.same
    | raw _ => exact Le.same
  | .agg es, q => by
    cases q <;> simp only [wkTo] <;> first
      | exact Le.agg (wkL_le es _)
      | exact Le.same
  | .tup es, q => by
    cases q <;> simp only [wkTo] <;> first
      | exact Le.tup (wkL_le es _)
      | exact Le.same
  | .ptr _ _, q => Le.same
  | .fptr _, q => Le.same
  | .osl _, q => Le.same
  | .aptr _ _ _ _, q => Le.same
  | .map _, q => Le.same
  | .func _ _, q => Le.same
theorem wkL_le : ∀ (es qs : List PV), LeL qs (wkL es qs)
  | [], qs => by simp only [wkL]; exact leL_same qs
  | e :: es, [] => by simp only [wkL]; trivial
  | e :: es, q :: qs => by simp only [wkL]; exact ⟨wkTo_le e q, wkL_le es qs⟩
theorem leL_same : ∀ (qs : List PV), LeL qs qs
  | [] => trivial
  | _ :: qs => ⟨Le.same, leL_same qs⟩
end
def wkE : Ent → Ent → Ent
  | .var es, d => match d with
    | .var qs => .var (wkL es qs)
    | d => d
  | .arr w _ _ _, d => match d with
    | .arr w' e sz xs => bif w || !w' then .arr w' e sz xs else .arr false e sz xs
    | d => d
  | .mp _, d => d
theorem wkE_le (e d : Ent) : LeE d (wkE e d) := by
  cases e with
  | var es => cases d <;> simp only [wkE] <;> first | exact LeE.var (wkL_le es _) | exact LeE.same
  | arr w _ _ _ =>
    cases d with
    | arr w' e sz xs =>
      simp only [wkE]
      cases w <;> cases w' <;> first | exact LeE.same | exact LeE.read
    | _ => exact LeE.same
  | mp _ => exact LeE.same

/-- What is asked to be equal. -/
inductive Q1 where
  | p (x : PV)
  | e (x : Ent)
  | o (x : Op)
  | v (x : Option Value)
abbrev Eqs := List (Q1 × Q1)
def EqOK (q : Eqs) : Prop := ∀ x ∈ q, x.1 = x.2
theorem EqOK.of {q : Eqs} (h : q.map (·.1) = q.map (·.2)) : EqOK q := fun x hx => List.map_inj_left.1 h x hx
theorem EqOK.app {a b : Eqs} (h : EqOK (a ++ b)) : EqOK a ∧ EqOK b := ⟨fun x hx => h x (List.mem_append_left _ hx), fun x hx => h x (List.mem_append_right _ hx)⟩

def insEq (Γ : Gl) (r : Regs) : List (Operand × PV) → Option Eqs
  | [] => some []
  | (x, p) :: l => match opP Γ r x, insEq Γ r l with
    | some q, some es => some ((.p (wkTo p q), .p p) :: es)
    | _, _ => none
def memEq (m : MemL) : List (Nat × Ent) → Option Eqs
  | [] => some []
  | (i, e) :: l => match look m i, memEq m l with
    | some d, some es => some ((.e d, .e e) :: es)
    | _, _ => none
theorem insEq_ok {Γ : Gl} {r : Regs} : ∀ {l : List (Operand × PV)} {es : Eqs}, insEq Γ r l = some es → EqOK es → InsOK Γ r l
  | [], _, _, _ => trivial
  | (x, p) :: l, es, h, hq => by
    simp only [insEq] at h
    split at h
    · rename_i q es' h1 h2
      cases h
      have he := hq (.p (wkTo p q), .p p) (by simp)
      injection he with he
      exact ⟨⟨q, h1, by have := wkTo_le p q; rwa [he] at this⟩, insEq_ok h2 fun y hy => hq y (by simp [hy])⟩
    · cases h
theorem memEq_ok {m : MemL} : ∀ {l : List (Nat × Ent)} {es : Eqs}, memEq m l = some es → EqOK es → MemOK m l
  | [], _, _, _ => trivial
  | (i, e) :: l, es, h, hq => by
    simp only [memEq] at h
    split at h
    · rename_i d es' h1 h2
      cases h
      have he := hq (.e d, .e e) (by simp)
      injection he with he
      exact ⟨by rw [h1, he], memEq_ok h2 fun y hy => hq y (by simp [hy])⟩
    · cases h

mutual
/-- Every nil slice as an empty one. -/
def PV.nw : PV → PV
  | .c x => bif isNil (.c x) then .c (.sl []) else .c x
  | .agg xs => .agg (PV.nwL xs)
  | .tup xs => .tup (PV.nwL xs)
  | .ptr i o => .ptr i o
  | .fptr x => .fptr x
  | .osl i => .osl i
  | .aptr a b d e => .aptr a b d e
  | .map i => .map i
  | .func f g => .func f g
def PV.nwL : List PV → List PV
  | [] => []
  | x :: xs => x.nw :: PV.nwL xs
end
mutual
theorem PV.nw_le : ∀ (q : PV), Le q q.nw
  | .c x => by
    simp only [PV.nw]
    cases h : isNil (.c x) with
    | true => simp only [cond_true]; rw [isNil_eq h]; exact Le.nil
    | false => exact Le.same
  | .agg xs => by simp only [PV.nw]; exact Le.agg (PV.nwL_le xs)
  | .tup xs => by simp only [PV.nw]; exact Le.tup (PV.nwL_le xs)
  | .ptr _ _ => Le.same
  | .fptr _ => Le.same
  | .osl _ => Le.same
  | .aptr _ _ _ _ => Le.same
  | .map _ => Le.same
  | .func _ _ => Le.same
theorem PV.nwL_le : ∀ (qs : List PV), LeL qs (PV.nwL qs)
  | [] => trivial
  | q :: qs => ⟨PV.nw_le q, PV.nwL_le qs⟩
end
theorem PV.nwL_len : ∀ (qs : List PV), (PV.nwL qs).length = qs.length
  | [] => rfl
  | _ :: qs => by simp [PV.nwL, PV.nwL_len qs]

/-- An entry of a script. -/
inductive It (P : Program) (Γ : Gl) where
  | T
  | N
  | k {b v : Bool} (h : b = v)
  | kk (n : Nat) {b v : Bool} (h : b = v)
  | call {f : FuncId} {args : List PV} {mc : MemL} {pv : PV} {mc' : MemL} {new : List Nat} (h : ACalls P Γ f args mc pv mc' new)
  | ix {xs : List (List FV)} {n : Int} {cs : List FV} (h0 : 0 ≤ n) (hx : xs[n.toNat]? = some cs)
  | gx {cells ys : List FV} {n : Int} {len : Nat} (h0 : 0 ≤ n) (hn : n < len) (hd : cells.drop (n.toNat * 1) = ys)
  | sx {s : List UInt8} {n : Int} {b : UInt8} (h0 : 0 ≤ n) (hb : s[n.toNat]? = some b)
  | ap (w : Bool) {xs ys zs : List (List FV)} {nb sz : Nat} (hl : ys.all (fun r => r.length == sz) = true) (hz : xs ++ ys = zs) (hb : (xs.length + ys.length) * nb ≤ 140737488355328) (h63 : xs.length + ys.length ≤ maxLen)
  | sl {xs zs : List (List FV)} {l h : Int} {sz : Nat} (hall : xs.all (fun r => r.length == sz) = true) (h0 : 0 ≤ l) (hlh : l ≤ h) (hh : h ≤ xs.length) (hz : (xs.take h.toNat).drop l.toNat = zs)
  | rm {a b c : Int} (hb : b ≠ 0) (hc : c = a.tmod b)
  | qu {k : IntKind} {a b c : Int} (hb : b ≠ 0) (hc : c = k.wrap (a.tdiv b))
  | sa {a b c : List UInt8} (h : a.length + b.length ≤ 9223372036854775807) (hc : c = a ++ b)
  | bs (w : Bool) {rows rows' : List (List FV)} (h : rows = rows')
  | sto {xs xs' : List (List FV)} {i : Nat} {cs ys : List FV} (hi : xs[i]? = some cs) (hres : xs.set i (spl cs ys 0) = xs')
  | raw (op : Op) (ins : List (Operand × PV)) (mem : List (Nat × Ent)) (pv : Option PV) (upd : MemL) (new : List Nat) (h : ∀ o : Oper, o.op = op → OpTG P Γ o ins mem pv upd new)
  | ln {xs : List (List FV)} {n : Nat} (h : xs.length = n)
  | eq {t : TypeId} {us vs : List Value} {b : Bool} (hg : P.eqGuardType P.depth t = false) (h : ∀ w, (Op.equal t (.agg us.toArray) (.agg vs.toArray)).run P w = .ok b w)
  | lk {t : TypeId} {es : List (Value × Value)} {kv res : Value} (h : ∀ (o : Oper) (x k : Operand) (id : Nat) (pk : PV), o.op = .lookup t x k false → pk.val = some kv → OpT P o [(x, .map id), (k, pk)] [(id, .mp es)] (some (.c (.raw res))) [] [])
  | mu {t : TypeId} {es es' : List (Value × Value)} {kv vv : Value} (h : ∀ (o : Oper) (x k v : Operand) (id : Nat) (pk pv : PV), o.op = .mapUpdate t x k v → pk.val = some kv → pv.val = some vv → OpT P o [(x, .map id), (k, pk), (v, pv)] [(id, .mp es)] none [(id, some (.mp es'))] [])
  | cs {f : FuncId} (h : ∀ (o : Oper) (x y g : Operand) (ts : Array TypeId) (a b : List UInt8), o.op = .call { callee := .value g, args := #[x, y], argTypes := ts } → OpT P o [(g, .func f []), (x, .c (.raw (.string (mkS a)))), (y, .c (.raw (.string (mkS b))))] [] (some (.c (.raw (.int .i64 (cmpS a b))))) [] [])
  | frz (at_ id : Nat)
  | ren (at_ n k : Nat)
  | ownR (at_ : Nat) (w : Bool) (t s e sz : Nat)
  | ownC (at_ : Nat) (w : Bool) (id k s e sz : Nat)
  | rd (at_ id : Nat)
  | tell (at_ id : Nat)
  | kp (at_ : Nat) (ts ids : List Nat)
end Go.Ab
