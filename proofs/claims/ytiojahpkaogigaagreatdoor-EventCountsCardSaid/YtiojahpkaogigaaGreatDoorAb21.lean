/- What an entry of a script makes of an operation. Conditions: none. -/
import Derived.Test.YtiojahpkaogigaaGreatDoorAb20
namespace Go.Ab

mutual
def PV.os : PV → List Nat
  | .c _ => []
  | .agg xs => PV.osL xs
  | .tup xs => PV.osL xs
  | .ptr _ _ => []
  | .fptr _ => []
  | .osl i => [i]
  | .aptr _ _ _ _ => []
  | .map _ => []
  | .func _ _ => []
def PV.osL : List PV → List Nat
  | [] => []
  | x :: xs => x.os ++ PV.osL xs
end
/-- Rows of the call's own that a value speaks of, to be looked at as frozen ones. -/
def vwOf (m : MemL) : List Nat → Vw
  | [] => []
  | i :: l => match look m i with
    | some (.arr false e sz xs) => (i, e, sz, xs) :: vwOf m l
    | _ => vwOf m l
theorem vwOf_ok {m : MemL} : ∀ {l : List Nat}, MemOK m (viewM (vwOf m l))
  | [] => trivial
  | i :: l => by
    simp only [vwOf]
    split
    · rename_i h; exact ⟨h, vwOf_ok⟩
    · exact vwOf_ok
theorem nwL_ins {Γ : Gl} {r : Regs} : ∀ {xs : List Operand} {qs : List PV}, opsP Γ r xs = some qs → InsOK Γ r (xs.zip (PV.nwL qs))
  | [], qs, h => by simp only [opsP, Option.some.injEq] at h; subst h; trivial
  | x :: xs, qs, h => by
    simp only [opsP] at h
    split at h
    · rename_i p ps h1 h2
      cases h
      exact ⟨⟨p, h1, PV.nw_le p⟩, nwL_ins h2⟩
    · cases h

def gen (Γ : Gl) (r : Regs) (m : MemL) (e : Eff) : Option (Eff × Eqs) :=
  match insEq Γ r e.ins, memEq m e.mem with
  | some a, some b => some (e, a ++ b)
  | _, _ => none
theorem gen_ok {P : Program} {Γ : Gl} {o : Oper} {r : Regs} {m : MemL} {e e' : Eff} {q : Eqs} (h : gen Γ r m e = some (e', q)) (hq : EqOK q) (hT : OpTG P Γ o e.ins e.mem e.pv e.upd e.new) :
    OpTG P Γ o e'.ins e'.mem e'.pv e'.upd e'.new ∧ InsOK Γ r e'.ins ∧ MemOK m e'.mem := by
  unfold gen at h
  split at h
  · rename_i a b h1 h2
    cases h
    exact ⟨hT, insEq_ok h1 hq.app.1, memEq_ok h2 hq.app.2⟩
  · cases h

def effCall (T : Tb) (Γ : Gl) (f : FuncId) (args : List PV) (mc : MemL) (pv : PV) (mc' : MemL) (new : List Nat) (c : Call) (r : Regs) (m : MemL) : Option (Eff × Eqs) :=
  match c.callee with
  | .value x => match opP Γ r x, opsP Γ r c.args.toList, memEq m (entL mc) with
    | some (.func f' caps), some qs, some es =>
      bif Nat.beq f' f && T.ci f' && once mc && madeOK mc mc' new && Nat.ble c.args.toList.length args.length then
        some (⟨(x, .func f' caps) :: c.args.toList.zip (PV.nwL qs), viewM (vwOf m (PV.osL qs)) ++ entL mc, some pv, mc' ++ kill mc, new⟩,
          (.p (.tup ((PV.nwL qs).map (viewP (vwOf m (PV.osL qs))))), .p (.tup (args.take c.args.toList.length))) :: (.p (.tup caps), .p (.tup (args.drop c.args.toList.length))) :: (.p (viewP (vwOf m (PV.osL qs)) (.func f' caps)), .p (.func f' caps)) :: es)
      else none
    | _, _, _ => none
  | _ => none

theorem effCall_ok {P : Program} {T : Tb} (hT : TbOK P T) {Γ : Gl} {f : FuncId} {args : List PV} {mc : MemL} {pv : PV} {mc' : MemL} {new : List Nat} (hC : ACalls P Γ f args mc pv mc' new) {c : Call} {o : Oper} (ho : o.op = .call c) {r : Regs} {m : MemL} {e : Eff} {q : Eqs}
    (h : effCall T Γ f args mc pv mc' new c r m = some (e, q)) (hq : EqOK q) : OpTG P Γ o e.ins e.mem e.pv e.upd e.new ∧ InsOK Γ r e.ins ∧ MemOK m e.mem := by
  unfold effCall at h
  split at h
  · rename_i x hx
    split at h
    · rename_i f' caps qs es h1 h2 h3
      cases hb : Nat.beq f' f && T.ci f' && once mc && madeOK mc mc' new && Nat.ble c.args.toList.length args.length with
      | false => rw [hb] at h; cases h
      | true =>
        rw [hb] at h; cases h
        simp only [Bool.and_eq_true] at hb
        obtain ⟨⟨⟨⟨b1, b2⟩, b3⟩, b4⟩, b5⟩ := hb
        have b1 := Nat.eq_of_beq_eq_true b1
        subst b1
        have e1 := hq (.p (.tup ((PV.nwL qs).map (viewP (vwOf m (PV.osL qs))))), .p (.tup (args.take c.args.toList.length))) (by simp)
        have e2 := hq (.p (.tup caps), .p (.tup (args.drop c.args.toList.length))) (by simp)
        have e3 := hq (.p (viewP (vwOf m (PV.osL qs)) (.func f' caps)), .p (.func f' caps)) (by simp)
        injection e1 with e1; injection e1 with e1
        injection e2 with e2; injection e2 with e2
        injection e3 with e3
        have hargs : args = (PV.nwL qs).map (viewP (vwOf m (PV.osL qs))) ++ caps := by rw [e1, e2, List.take_append_drop]
        have hl : c.args.toList.length = ((PV.nwL qs).map (viewP (vwOf m (PV.osL qs)))).length := by
          rw [List.length_map, PV.nwL_len]; exact (opsP_ok h2).2
        have hc : c = { callee := .value x, args := c.args.toList.toArray, argTypes := c.argTypes } := by cases c; simp only at hx; subst hx; rfl
        rw [hargs] at hC
        have hT1 := OpTG.call (o := o) (x := x) (ts := c.argTypes) (xs := c.args.toList) (by rw [ho]; exact congrArg Op.call hc) hC (hT.ci _ b2) b3 b4 hl
        refine ⟨OpTG.view _ ?_, ⟨⟨_, h1, Le.same⟩, nwL_ins h2⟩, vwOf_ok.append (memEq_ok h3 fun y hy => hq y (by simp [hy]))⟩
        simp only [viewI, e3, viewI_zip]
        exact hT1
    · cases h
  · cases h

def ikOf : Option PV → Option IntKind
  | some (.c (.raw (.int k _))) => some k
  | _ => none

def effIx (T : Tb) (Γ : Gl) (xs : List (List FV)) (n : Int) (cs : List FV) (o : Oper) (r : Regs) (m : MemL) : Option (Eff × Eqs) :=
  match o.op with
  | .indexAddr t x i => match T.si t, ikOf (opP Γ r i), opP Γ r x with
    | some (_, sz), some k, some (.c (.sl _)) => bif Nat.beq cs.length sz then gen Γ r m ⟨[(x, .c (.sl xs)), (i, .c (.raw (.int k n)))], [], some (.fptr cs), [], []⟩ else none
    | some (_, sz), some k, some (.osl id) => match look m id with
      | some (.arr wr e _ _) => gen Γ r m ⟨[(x, .osl id), (i, .c (.raw (.int k n)))], [(id, .arr wr e sz xs)], some (.aptr id sz n.toNat 0), [], []⟩
      | _ => none
    | _, _, _ => none
  | .load t x => match opP Γ r x with
    | some (.aptr id sz _ off) => match look m id, T.t.ti t with
      | some (.arr wr e _ _), some (true, k) => bif Nat.beq ((cs.drop off).take k).length k then gen Γ r m ⟨[(x, .aptr id sz n.toNat off)], [(id, .arr wr e sz xs)], some (.agg (((cs.drop off).take k).map .c)), [], []⟩ else none
      | some (.arr wr e _ _), some (false, 1) => match cs[off]? with
        | some y => gen Γ r m ⟨[(x, .aptr id sz n.toNat off)], [(id, .arr wr e sz xs)], some (.c y), [], []⟩
        | none => none
      | _, _ => none
    | _ => none
  | _ => none
theorem effIx_ok {P : Program} {T : Tb} (hT : TbOK P T) {Γ : Gl} {xs : List (List FV)} {n : Int} {cs : List FV} (h0 : 0 ≤ n) (hx : xs[n.toNat]? = some cs) {o : Oper} {r : Regs} {m : MemL} {e : Eff} {q : Eqs} (h : effIx T Γ xs n cs o r m = some (e, q)) (hq : EqOK q) :
    OpTG P Γ o e.ins e.mem e.pv e.upd e.new ∧ InsOK Γ r e.ins ∧ MemOK m e.mem := by
  unfold effIx at h
  split at h
  · rename_i t x i ho
    split at h
    · rename_i sz k ys h1 h2 h3
      cases hb : Nat.beq cs.length sz with
      | false => rw [hb] at h; cases h
      | true => rw [hb] at h; exact gen_ok h hq (OpT.indexF ho (hT.si _ _ _ h1) h0 hx (Nat.eq_of_beq_eq_true hb)).g
    · rename_i sz k id h1 h2 h3
      split at h
      · exact gen_ok h hq (OpT.indexO ho (hT.si _ _ _ h1) h0 (lt_of_idx hx)).g
      · cases h
    · cases h
  · rename_i t x ho
    split at h
    · rename_i id sz j off h1
      split at h
      · rename_i wr e' sz' ys k h2 h3
        cases hb : Nat.beq ((cs.drop off).take k).length k with
        | false => rw [hb] at h; cases h
        | true => rw [hb] at h; exact gen_ok h hq (OpT.loadAggA ho (hT.t.ti _ _ _ h3) hx rfl (Nat.eq_of_beq_eq_true hb)).g
      · rename_i wr e' sz' ys h2 h3
        split at h
        · rename_i y hy; exact gen_ok h hq (OpT.loadA ho (hT.t.ti _ _ _ h3) hx hy).g
        · cases h
      · cases h
    · cases h
  · cases h

/-- 'append'. -/
def effAp (T : Tb) (Γ : Gl) (w : Bool) (xs ys zs : List (List FV)) (nb sz : Nat) (o : Oper) (r : Regs) (m : MemL) (s : Nat) : Option (Eff × Eqs) :=
  match o.op with
  | .call c => match c.callee, c.args.toList, c.argTypes.toList with
    | .builtin .append, [x, y], [t, t'] => match T.ap t with
      | some (e, sz', nb') => bif Nat.beq t t' && Nat.beq sz sz' && Nat.beq nb nb' then
          (match opP Γ r x with
          | some (.osl id) => match look m id with
            | some (.arr wr _ _ _) => match opP Γ r y with
              | some (.osl id2) => match look m id2 with
                | some (.arr wr2 e2 _ _) => gen Γ r m ⟨[(x, .osl id), (y, .osl id2)], [(id, .arr wr e sz xs), (id2, .arr wr2 e2 sz ys)], some (.osl s), [(s, some (.arr wr e sz zs)), (id, none)], [s]⟩
                | _ => none
              | some (.c _) => gen Γ r m ⟨[(x, .osl id), (y, .c (.sl ys))], [(id, .arr wr e sz xs)], some (.osl s), [(s, some (.arr wr e sz zs)), (id, none)], [s]⟩
              | _ => none
            | _ => none
          | some (.c _) => match xs with
            | [] => match opP Γ r y with
              | some (.osl id2) => match look m id2 with
                | some (.arr wr2 e2 _ _) => gen Γ r m ⟨[(x, .c (.raw (.slice none 0 0))), (y, .osl id2)], [(id2, .arr wr2 e2 sz ys)], some (.osl s), [(s, some (.arr w e sz zs))], [s]⟩
                | _ => none
              | some (.c _) => gen Γ r m ⟨[(x, .c (.raw (.slice none 0 0))), (y, .c (.sl ys))], [], some (.osl s), [(s, some (.arr w e sz zs))], [s]⟩
              | _ => none
            | _ => none
          | _ => none) else none
      | none => none
    | _, _, _ => none
  | _ => none
theorem effAp_ok {P : Program} {T : Tb} (hT : TbOK P T) {Γ : Gl} {w : Bool} {xs ys zs : List (List FV)} {nb sz : Nat} (hl : ys.all (fun r => r.length == sz) = true) (hz : xs ++ ys = zs) (hb : (xs.length + ys.length) * nb ≤ 140737488355328) (h63 : xs.length + ys.length ≤ maxLen)
    {o : Oper} {r : Regs} {m : MemL} {s : Nat} {e : Eff} {q : Eqs} (h : effAp T Γ w xs ys zs nb sz o r m s = some (e, q)) (hq : EqOK q) : OpTG P Γ o e.ins e.mem e.pv e.upd e.new ∧ InsOK Γ r e.ins ∧ MemOK m e.mem := by
  unfold effAp at h
  split at h
  · rename_i c ho
    split at h
    · rename_i x y t t' h1 h2 h3
      have ho' := ho.trans (call_eq h1 h2 h3)
      split at h
      · rename_i e' sz' nb' ht
        cases hbb : Nat.beq t t' && Nat.beq sz sz' && Nat.beq nb nb' with
        | false => rw [hbb] at h; cases h
        | true =>
          rw [hbb] at h
          simp only [Bool.and_eq_true] at hbb
          have b1 := Nat.eq_of_beq_eq_true hbb.1.1
          have b2 := Nat.eq_of_beq_eq_true hbb.1.2
          have b3 := Nat.eq_of_beq_eq_true hbb.2
          subst b1; subst b2; subst b3; subst hz
          have hA := hT.ap _ _ _ _ ht
          simp only [cond_true] at h
          split at h
          · rename_i id hx
            split at h
            · split at h
              · split at h
                · exact gen_ok h hq (OpT.appendO ho' hA hb h63).g
                · cases h
              · exact gen_ok h hq (OpT.append ho' hA hl hb h63).g
              · cases h
            · cases h
          · split at h
            · simp only [List.length_nil, Nat.zero_add] at hb h63
              split at h
              · split at h
                · exact gen_ok h hq (OpT.appendNO ho' hA hb h63).g
                · cases h
              · exact gen_ok h hq (OpT.appendN ho' hA hl hb h63).g
              · cases h
            · cases h
          · cases h
      · cases h
    · cases h
  · cases h

/-- 'x[l:h]' of what is frozen. -/
def effSl (T : Tb) (Γ : Gl) (xs zs : List (List FV)) (l h : Int) (sz : Nat) (o : Oper) (r : Regs) : Option (Eff × Eqs) :=
  match o.op with
  | .slice t x lo hi none => match T.si t, opP Γ r x with
    | some (_, sz'), some q => bif Nat.beq sz sz' then
        (match lo, hi with
        | none, none => some (⟨[(x, .c (.sl xs))], [], some (.c (.sl zs)), [], []⟩, [(.p (wkTo (.c (.sl xs)) q), .p (.c (.sl xs))), (.v (some (.int .i64 l)), .v (some (.int .i64 0))), (.v (some (.int .i64 h)), .v (some (.int .i64 xs.length)))])
        | some a, none => match opP Γ r a with
          | some (.c (.raw (.int k n))) => some (⟨[(x, .c (.sl xs)), (a, .c (.raw (.int k (l.toNat : Int))))], [], some (.c (.sl zs)), [], []⟩, [(.p (wkTo (.c (.sl xs)) q), .p (.c (.sl xs))), (.v (some (.int .i64 l)), .v (some (.int .i64 n))), (.v (some (.int .i64 h)), .v (some (.int .i64 xs.length)))])
          | _ => none
        | none, some b => match opP Γ r b with
          | some (.c (.raw (.int k n))) => some (⟨[(x, .c (.sl xs)), (b, .c (.raw (.int k (h.toNat : Int))))], [], some (.c (.sl zs)), [], []⟩, [(.p (wkTo (.c (.sl xs)) q), .p (.c (.sl xs))), (.v (some (.int .i64 l)), .v (some (.int .i64 0))), (.v (some (.int .i64 h)), .v (some (.int .i64 n)))])
          | _ => none
        | some a, some b => match opP Γ r a, opP Γ r b with
          | some (.c (.raw (.int k n))), some (.c (.raw (.int k' n'))) => some (⟨[(x, .c (.sl xs)), (a, .c (.raw (.int k (l.toNat : Int)))), (b, .c (.raw (.int k' (h.toNat : Int))))], [], some (.c (.sl zs)), [], []⟩, [(.p (wkTo (.c (.sl xs)) q), .p (.c (.sl xs))), (.v (some (.int .i64 l)), .v (some (.int .i64 n))), (.v (some (.int .i64 h)), .v (some (.int .i64 n')))])
          | _, _ => none) else none
    | _, _ => none
  | _ => none
theorem Le.toNat {k : IntKind} {a b : Int} (h : 0 ≤ a) (he : a = b) : Le (.c (.raw (.int k b))) (.c (.raw (.int k (a.toNat : Int)))) := by subst he; exact Le.int_nat h
theorem effSl_ok {P : Program} {T : Tb} (hT : TbOK P T) {Γ : Gl} {xs zs : List (List FV)} {l h : Int} {sz : Nat} (hall : xs.all (fun r => r.length == sz) = true) (h0 : 0 ≤ l) (hlh : l ≤ h) (hh : h ≤ xs.length) (hz : (xs.take h.toNat).drop l.toNat = zs)
    {o : Oper} {r : Regs} {m : MemL} {e : Eff} {q : Eqs} (he : effSl T Γ xs zs l h sz o r = some (e, q)) (hq : EqOK q) : OpTG P Γ o e.ins e.mem e.pv e.upd e.new ∧ InsOK Γ r e.ins ∧ MemOK m e.mem := by
  unfold effSl at he
  split at he
  · rename_i t x lo hi ho
    split at he
    · rename_i e' sz' q0 h1 h2
      cases hb : Nat.beq sz sz' with
      | false => rw [hb] at he; cases he
      | true =>
        rw [hb] at he
        have b1 := Nat.eq_of_beq_eq_true hb
        subst b1
        have hs := hT.si _ _ _ h1
        have hln : l.toNat ≤ h.toNat := by omega
        have hhn : h.toNat ≤ xs.length := by omega
        have hx : ∀ {es : Eqs}, EqOK ((.p (wkTo (.c (.sl xs)) q0), .p (.c (.sl xs))) :: es) → ∃ q, opP Γ r x = some q ∧ Le q (.c (.sl xs)) := fun hq => by
          have := hq (.p (wkTo (.c (.sl xs)) q0), .p (.c (.sl xs))) (by simp)
          injection this with this
          exact ⟨q0, h2, by have h := wkTo_le (.c (.sl xs)) q0; rwa [this] at h⟩
        simp only [cond_true] at he
        split at he
        · cases he
          have e2 := hq (.v (some (.int .i64 l)), .v (some (.int .i64 0))) (by simp)
          have e3 := hq (.v (some (.int .i64 h)), .v (some (.int .i64 xs.length))) (by simp)
          injection e2 with e2; injection e2 with e2; injection e2 with _ e2
          injection e3 with e3; injection e3 with e3; injection e3 with _ e3
          exact ⟨(OpT.sliceF (ins := []) ho hs hall (.inl ⟨rfl, by omega⟩) (.inl ⟨rfl, by omega⟩) hln hhn hz).g, ⟨hx hq, trivial⟩, trivial⟩
        · split at he
          · rename_i a _ k n ha
            cases he
            have e2 := hq (.v (some (.int .i64 l)), .v (some (.int .i64 n))) (by simp)
            have e3 := hq (.v (some (.int .i64 h)), .v (some (.int .i64 xs.length))) (by simp)
            injection e2 with e2; injection e2 with e2; injection e2 with _ e2
            injection e3 with e3; injection e3 with e3; injection e3 with _ e3
            exact ⟨(OpT.sliceF (ins := [(a, .c (.raw (.int k (l.toNat : Int))))]) ho hs hall (.inr ⟨a, k, rfl, by simp⟩) (.inl ⟨rfl, by omega⟩) hln hhn hz).g, ⟨hx hq, ⟨_, ha, Le.toNat h0 e2⟩, trivial⟩, trivial⟩
          · cases he
        · split at he
          · rename_i b _ k n ha
            cases he
            have e2 := hq (.v (some (.int .i64 l)), .v (some (.int .i64 0))) (by simp)
            have e3 := hq (.v (some (.int .i64 h)), .v (some (.int .i64 n))) (by simp)
            injection e2 with e2; injection e2 with e2; injection e2 with _ e2
            injection e3 with e3; injection e3 with e3; injection e3 with _ e3
            exact ⟨(OpT.sliceF (ins := [(b, .c (.raw (.int k (h.toNat : Int))))]) ho hs hall (.inl ⟨rfl, by omega⟩) (.inr ⟨b, k, rfl, by simp⟩) hln hhn hz).g, ⟨hx hq, ⟨_, ha, Le.toNat (Int.le_trans h0 hlh) e3⟩, trivial⟩, trivial⟩
          · cases he
        · split at he
          · rename_i a b _ _ k n k' n' ha hb'
            cases he
            have e2 := hq (.v (some (.int .i64 l)), .v (some (.int .i64 n))) (by simp)
            have e3 := hq (.v (some (.int .i64 h)), .v (some (.int .i64 n'))) (by simp)
            injection e2 with e2; injection e2 with e2; injection e2 with _ e2
            injection e3 with e3; injection e3 with e3; injection e3 with _ e3
            exact ⟨(OpT.sliceF (ins := [(a, .c (.raw (.int k (l.toNat : Int)))), (b, .c (.raw (.int k' (h.toNat : Int))))]) ho hs hall (.inr ⟨a, k, rfl, by simp⟩) (.inr ⟨b, k', rfl, by simp⟩) hln hhn hz).g, ⟨hx hq, ⟨_, ha, Le.toNat h0 e2⟩, ⟨_, hb', Le.toNat (Int.le_trans h0 hlh) e3⟩, trivial⟩, trivial⟩
          · cases he
    · cases he
  · cases he
end Go.Ab
