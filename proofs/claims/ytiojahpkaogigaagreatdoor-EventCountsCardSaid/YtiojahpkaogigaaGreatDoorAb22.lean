/- What an entry of a script makes of an operation: the rest; one operation; a run of operations. Conditions: none. -/
import Derived.Test.YtiojahpkaogigaaGreatDoorAb21
namespace Go.Ab

theorem bif_some {α : Type} {b : Bool} {x : Option α} {y : α} (h : (bif b then x else none) = some y) : b = true ∧ x = some y := by
  cases b with
  | true => exact ⟨rfl, h⟩
  | false => cases h
def fvs : List PV → Option (List FV)
  | [] => some []
  | .c x :: l => match fvs l with
    | some xs => some (x :: xs)
    | none => none
  | _ :: _ => none
theorem fvs_ok : ∀ {ps : List PV} {xs : List FV}, fvs ps = some xs → ps = xs.map .c
  | [], xs, h => by simp only [fvs, Option.some.injEq] at h; subst h; rfl
  | .c x :: l, xs, h => by
    simp only [fvs] at h
    split at h
    · rename_i ys hy; cases h; rw [fvs_ok hy]; rfl
    · cases h
  | .agg _ :: _, _, h => by simp [fvs] at h
  | .tup _ :: _, _, h => by simp [fvs] at h
  | .ptr _ _ :: _, _, h => by simp [fvs] at h
  | .fptr _ :: _, _, h => by simp [fvs] at h
  | .osl _ :: _, _, h => by simp [fvs] at h
  | .aptr _ _ _ _ :: _, _, h => by simp [fvs] at h
  | .map _ :: _, _, h => by simp [fvs] at h
  | .func _ _ :: _, _, h => by simp [fvs] at h

/-- A slice literal. -/
def effBs (T : Tb) (Γ : Gl) (w : Bool) (rows rows' : List (List FV)) (o : Oper) (r : Regs) (m : MemL) (s : Nat) : Option (Eff × Eqs) :=
  match o.op with
  | .buildSlice t len l => match T.si t, opsP Γ r (l.toList.map (·.2)) with
    | some (e, sz), some qs => match T.t.zi e with
      | some zs => match fillP (fun i => some (i * sz, sz)) ((zeroL zs (len * sz)).map fun v => .c (.raw v)) ((l.toList.map (·.1)).zip ((PV.nwL qs).map (viewP (vwOf m (PV.osL qs))))) with
        | some out => bif Nat.beq zs.length sz && Nat.blt 0 sz && (zeroL zs (len * sz)).all (·.oneCell') && Nat.ble (len * sz) 16777216 && ((PV.nwL qs).map (viewP (vwOf m (PV.osL qs)))).all PV.flat && Nat.beq rows.length len && rows.all (fun r => r.length == sz) then
            some (⟨(l.toList.map (·.2)).zip (PV.nwL qs), viewM (vwOf m (PV.osL qs)) ++ [], some (.osl s), [(s, some (.arr w e sz rows'))], [s]⟩, [(.p (.tup out), .p (.tup (rows.flatten.map .c)))]) else none
        | none => none
      | none => none
    | _, _ => none
  | _ => none
theorem effBs_ok {P : Program} {T : Tb} (hT : TbOK P T) {Γ : Gl} {w : Bool} {rows rows' : List (List FV)} (hr : rows = rows') {o : Oper} {r : Regs} {m : MemL} {s : Nat} {e : Eff} {q : Eqs} (h : effBs T Γ w rows rows' o r m s = some (e, q)) (hq : EqOK q) :
    OpTG P Γ o e.ins e.mem e.pv e.upd e.new ∧ InsOK Γ r e.ins ∧ MemOK m e.mem := by
  unfold effBs at h
  split at h
  · rename_i t len l ho
    split at h
    · rename_i e' sz qs h1 h2
      split at h
      · rename_i zs h3
        split at h
        · rename_i out h4
          cases hb : Nat.beq zs.length sz && Nat.blt 0 sz && (zeroL zs (len * sz)).all (·.oneCell') && Nat.ble (len * sz) 16777216 && ((PV.nwL qs).map (viewP (vwOf m (PV.osL qs)))).all PV.flat && Nat.beq rows.length len && rows.all (fun r => r.length == sz) with
          | false => rw [hb] at h; cases h
          | true =>
            rw [hb] at h; cases h
            simp only [Bool.and_eq_true] at hb
            obtain ⟨⟨⟨⟨⟨⟨b1, b2⟩, b3⟩, b4⟩, b5⟩, b6⟩, b7⟩ := hb
            have e1 := hq (.p (.tup out), .p (.tup (rows.flatten.map .c))) (by simp)
            injection e1 with e1; injection e1 with e1
            subst e1; subst hr
            obtain ⟨i, z, g1, g2, g3, g4⟩ := (hT.t.zi _ _ h3).zero
            have hl : (l.toList.map (·.2)).length = ((PV.nwL qs).map (viewP (vwOf m (PV.osL qs)))).length := by
              rw [List.length_map (as := PV.nwL qs), PV.nwL_len]; exact (opsP_ok h2).2
            have hT1 := (OpT.buildSlice (wr := w) (P := P) (o := o) (s := s) (is := l.toList.map (·.1)) (xs := l.toList.map (·.2)) (by rw [zip_parts]; exact ho) (hT.si _ _ _ h1).desc g1 (g4.trans (Nat.eq_of_beq_eq_true b1)) (Nat.le_of_ble_eq_true b2) g2 g3 b3 (Nat.le_of_ble_eq_true b4)
              (by rw [← hl]; simp) hl b5 h4 (Nat.eq_of_beq_eq_true b6) b7).g (Γ := Γ)
            rw [← viewI_zip] at hT1
            exact ⟨OpTG.view _ hT1, nwL_ins h2, vwOf_ok.append trivial⟩
        · cases h
      · cases h
    · cases h
  · cases h

/-- A store into a row that may be written. -/
def effSto (T : Tb) (Γ : Gl) (xs xs' : List (List FV)) (i : Nat) (ys : List FV) (o : Oper) (r : Regs) (m : MemL) : Option (Eff × Eqs) :=
  match o.op with
  | .store t ad x => match opP Γ r ad, opP Γ r x, T.t.ti t with
    | some (.aptr id sz _ 0), some q, some (_, n) => match look m id with
      | some (.arr true e _ _) => bif Nat.beq ys.length n && q.nw.flat && Nat.ble n sz then
          match gen Γ r m ⟨[(ad, .aptr id sz i 0), (x, q.nw)], [(id, .arr true e sz xs)], none, [(id, some (.arr true e sz xs'))], []⟩ with
          | some (e, es) => some (e, (.p (.tup q.nw.cells), .p (.tup (ys.map .c))) :: es)
          | none => none
        else none
      | _ => none
    | _, _, _ => none
  | _ => none
theorem effSto_ok {P : Program} {T : Tb} (hT : TbOK P T) {Γ : Gl} {xs xs' : List (List FV)} {i : Nat} {cs ys : List FV} (hi : xs[i]? = some cs) (hres : xs.set i (spl cs ys 0) = xs') {o : Oper} {r : Regs} {m : MemL} {e : Eff} {q : Eqs} (h : effSto T Γ xs xs' i ys o r m = some (e, q)) (hq : EqOK q) :
    OpTG P Γ o e.ins e.mem e.pv e.upd e.new ∧ InsOK Γ r e.ins ∧ MemOK m e.mem := by
  unfold effSto at h
  split at h
  · rename_i t ad x ho
    split at h
    · rename_i id sz j q0 a n h1 h2 h3
      split at h
      · rename_i e' sz' ys' h4
        cases hb : Nat.beq ys.length n && q0.nw.flat && Nat.ble n sz with
        | false => rw [hb] at h; cases h
        | true =>
          rw [hb] at h
          simp only [cond_true] at h
          simp only [Bool.and_eq_true] at hb
          split at h
          · rename_i e2 es hg
            cases h
            have e1 := hq (.p (.tup q0.nw.cells), .p (.tup (ys.map .c))) (by simp)
            injection e1 with e1; injection e1 with e1
            exact gen_ok hg (fun y hy => hq y (by simp [hy])) (OpT.storeA ho (hT.t.ti _ _ _ h3).size e1 (Nat.eq_of_beq_eq_true hb.1.1) hb.1.2 hi (by have := Nat.le_of_ble_eq_true hb.2; omega) hres).g
          · cases h
      · cases h
    · cases h
  · cases h

def effI {P : Program} (T : Tb) (Γ : Gl) (it : It P Γ) (o : Oper) (r : Regs) (m : MemL) (s : Nat) : Option (Eff × Eqs) :=
  match it with
  | .call (f := f) (args := args) (mc := mc) (pv := pv) (mc' := mc') (new := new) _ => match o.op with
    | .call c => effCall T Γ f args mc pv mc' new c r m
    | _ => none
  | .ix (xs := xs) (n := n) (cs := cs) _ _ => effIx T Γ xs n cs o r m
  | .gx (cells := cells) (ys := ys) (n := n) (len := len) _ _ _ => match o.op with
    | .indexAddr t x i => match T.ar t, ikOf (opP Γ r i) with
      | some (l, _, 1), some k => bif Nat.beq l len then gen Γ r m ⟨[(x, .fptr cells), (i, .c (.raw (.int k n)))], [], some (.fptr ys), [], []⟩ else none
      | _, _ => none
    | _ => none
  | .sx (s := l) (n := n) (b := b) _ _ => match o.op with
    | .index t x i => match T.st t, ikOf (opP Γ r i) with
      | true, some k => gen Γ r m ⟨[(x, .c (.raw (.string (mkS l)))), (i, .c (.raw (.int k n)))], [], some (.c (.raw (.int .u8 b.toNat))), [], []⟩
      | _, _ => none
    | _ => none
  | .ap w (xs := xs) (ys := ys) (zs := zs) (nb := nb) (sz := sz) _ _ _ _ => effAp T Γ w xs ys zs nb sz o r m s
  | .sl (xs := xs) (zs := zs) (l := l) (h := h) (sz := sz) _ _ _ _ _ => effSl T Γ xs zs l h sz o r
  | .rm (a := a) (b := b) (c := c) _ _ => match o.op with
    | .binOp .rem _ x y _ => match ikOf (opP Γ r x) with
      | some k => gen Γ r m ⟨[(x, .c (.raw (.int k a))), (y, .c (.raw (.int k b)))], [], some (.c (.raw (.int k c))), [], []⟩
      | none => none
    | _ => none
  | .qu (k := k) (a := a) (b := b) (c := c) _ _ => match o.op with
    | .binOp .quo _ x y _ => gen Γ r m ⟨[(x, .c (.raw (.int k a))), (y, .c (.raw (.int k b)))], [], some (.c (.raw (.int k c))), [], []⟩
    | _ => none
  | .sa (a := a) (b := b) (c := c) _ _ => match o.op with
    | .binOp .add _ x y _ => gen Γ r m ⟨[(x, .c (.raw (.string (mkS a)))), (y, .c (.raw (.string (mkS b))))], [], some (.c (.raw (.string (mkS c)))), [], []⟩
    | _ => none
  | .bs w (rows := rows) (rows' := rows') _ => effBs T Γ w rows rows' o r m s
  | .sto (xs := xs) (xs' := xs') (i := i) (ys := ys) _ _ => effSto T Γ xs xs' i ys o r m
  | .raw op ins mem pv upd new _ => match gen Γ r m ⟨ins, mem, pv, upd, new⟩ with
    | some (e, es) => some (e, (.o o.op, .o op) :: es)
    | none => none
  | .ln (xs := xs) (n := n) _ => match o.op with
    | .call c => match c.callee, c.args.toList, c.argTypes.toList with
      | .builtin .len, [x], [t] => match T.si t, opP Γ r x with
        | some _, some (.c (.sl _)) => gen Γ r m ⟨[(x, .c (.sl xs))], [], some (.c (.raw (.int .i64 n))), [], []⟩
        | some _, some (.osl id) => match look m id with
          | some (.arr wr e sz _) => gen Γ r m ⟨[(x, .osl id)], [(id, .arr wr e sz xs)], some (.c (.raw (.int .i64 n))), [], []⟩
          | _ => none
        | _, _ => none
      | _, _, _ => none
    | _ => none
  | .eq (t := t) (us := us) (vs := vs) (b := b) _ _ => match o.op with
    | .binOp .eql t' x y _ => bif Nat.beq t t' then gen Γ r m ⟨[(x, .agg (us.map fun v => .c (.raw v))), (y, .agg (vs.map fun v => .c (.raw v)))], [], some (.c (.raw (.bool b))), [], []⟩ else none
    | .binOp .neq t' x y _ => bif Nat.beq t t' then gen Γ r m ⟨[(x, .agg (us.map fun v => .c (.raw v))), (y, .agg (vs.map fun v => .c (.raw v)))], [], some (.c (.raw (.bool (!b)))), [], []⟩ else none
    | _ => none
  | .lk (t := t) (es := es) (kv := kv) (res := res) _ => match o.op with
    | .lookup t' x k false => match opP Γ r x, opP Γ r k with
      | some (.map id), some pk => bif Nat.beq t t' then
          match gen Γ r m ⟨[(x, .map id), (k, pk)], [(id, .mp es)], some (.c (.raw res)), [], []⟩ with
          | some (e, q) => some (e, (.v pk.val, .v (some kv)) :: q)
          | none => none
        else none
      | _, _ => none
    | _ => none
  | .mu (t := t) (es := es) (es' := es') (kv := kv) (vv := vv) _ => match o.op with
    | .mapUpdate t' x k v => match opP Γ r x, opP Γ r k, opP Γ r v with
      | some (.map id), some pk, some pv => bif Nat.beq t t' then
          match gen Γ r m ⟨[(x, .map id), (k, pk), (v, pv)], [(id, .mp es)], none, [(id, some (.mp es'))], []⟩ with
          | some (e, q) => some (e, (.v pk.val, .v (some kv)) :: (.v pv.val, .v (some vv)) :: q)
          | none => none
        else none
      | _, _, _ => none
    | _ => none
  | .cs (f := f) _ => match o.op with
    | .call c => match c.callee, c.args.toList with
      | .value g, [x, y] => match opP Γ r g, opP Γ r x, opP Γ r y with
        | some (.func f' []), some (.c (.raw (.string a))), some (.c (.raw (.string b))) => bif Nat.beq f f' then
            some (⟨[(g, .func f []), (x, .c (.raw (.string (mkS (strL a))))), (y, .c (.raw (.string (mkS (strL b)))))], [], some (.c (.raw (.int .i64 (cmpS (strL a) (strL b))))), [], []⟩, []) else none
        | _, _, _ => none
      | _, _ => none
    | _ => none
  | _ => none

theorem effI_ok {P : Program} {T : Tb} (hT : TbOK P T) {Γ : Gl} {it : It P Γ} {o : Oper} {r : Regs} {m : MemL} {s : Nat} {e : Eff} {q : Eqs} (h : effI T Γ it o r m s = some (e, q)) (hq : EqOK q) :
    OpTG P Γ o e.ins e.mem e.pv e.upd e.new ∧ InsOK Γ r e.ins ∧ MemOK m e.mem := by
  cases it with
  | call hC =>
    simp only [effI] at h
    split at h
    · rename_i c ho; exact effCall_ok hT hC ho h hq
    · cases h
  | ix h0 hx => exact effIx_ok hT h0 hx h hq
  | gx h0 hn hd =>
    simp only [effI] at h
    split at h
    · rename_i t x i ho
      split at h
      · rename_i l e' k h1 h2
        replace h := bif_some h
        obtain ⟨hb, h⟩ := h
        have hb := Nat.eq_of_beq_eq_true hb
        subst hb
        obtain ⟨g1, g2⟩ := hT.ar _ _ _ _ h1
        exact gen_ok h hq (OpT.indexAF ho g1 g2 h0 hn hd).g
      · cases h
    · cases h
  | sx h0 hb =>
    simp only [effI] at h
    split at h
    · rename_i t x i ho
      split at h
      · rename_i k h1 h2; exact gen_ok h hq (OpT.indexS ho (hT.st _ h1) h0 hb).g
      · cases h
    · cases h
  | ap w hl hz hb h63 => exact effAp_ok hT hl hz hb h63 h hq
  | sl hall h0 hlh hh hz => exact effSl_ok hT hall h0 hlh hh hz h hq
  | rm hb hc =>
    simp only [effI] at h
    split at h
    · rename_i t x y u ho
      split at h
      · rename_i k hk; exact gen_ok h hq (OpT.bin ho (bin_rem' k _ _ hb hc) rfl).g
      · cases h
    · cases h
  | qu hb hc =>
    simp only [effI] at h
    split at h
    · rename_i t x y u ho; exact gen_ok h hq (OpT.bin ho (bin_quo' _ _ _ hb hc) rfl).g
    · cases h
  | sa hl hc =>
    simp only [effI] at h
    split at h
    · rename_i t x y u ho; exact gen_ok h hq (OpT.bin ho (bin_sadd' _ _ hl hc) rfl).g
    · cases h
  | bs w hr => exact effBs_ok hT hr h hq
  | sto hi hres => exact effSto_ok hT hi hres h hq
  | raw op ins mem pv upd new hr =>
    simp only [effI] at h
    split at h
    · rename_i e' es hg
      cases h
      have e1 := hq (.o o.op, .o op) (by simp)
      injection e1 with e1
      exact gen_ok hg (fun y hy => hq y (by simp [hy])) (hr o e1)
    · cases h
  | ln hn =>
    simp only [effI] at h
    split at h
    · rename_i c ho
      split at h
      · rename_i x t h1 h2 h3
        have ho' := ho.trans (call_eq h1 h2 h3)
        subst hn
        split at h
        · rename_i sz ys h4 h5; exact gen_ok h hq (OpT.lenF ho' (hT.si _ _ _ h4).desc rfl).g
        · rename_i sz id h4 h5
          split at h
          · exact gen_ok h hq (OpT.lenO ho' (hT.si _ _ _ h4).desc).g
          · cases h
        · cases h
      · cases h
    · cases h
  | eq hg he =>
    simp only [effI] at h
    split at h
    · rename_i t' x y u ho
      replace h := bif_some h
      obtain ⟨hb, h⟩ := h
      have hb := Nat.eq_of_beq_eq_true hb
      subst hb
      exact gen_ok h hq (OpT.binA ho (binA_eql hg he) rfl).g
    · rename_i t' x y u ho
      replace h := bif_some h
      obtain ⟨hb, h⟩ := h
      have hb := Nat.eq_of_beq_eq_true hb
      subst hb
      exact gen_ok h hq (OpT.binA ho (binA_neq hg he) rfl).g
    · cases h
  | lk hl =>
    simp only [effI] at h
    split at h
    · rename_i t' x k ho
      split at h
      · rename_i id pk h1 h2
        replace h := bif_some h
        obtain ⟨hb, h⟩ := h
        have hb := Nat.eq_of_beq_eq_true hb
        subst hb
        split at h
        · rename_i e' es hg
          cases h
          have e1 := hq (_, _) List.mem_cons_self
          injection e1 with e1
          exact gen_ok hg (fun y hy => hq y (List.mem_cons_of_mem _ hy)) (hl o x k id pk ho e1).g
        · cases h
      · cases h
    · cases h
  | mu hl =>
    simp only [effI] at h
    split at h
    · rename_i t' x k v ho
      split at h
      · rename_i id pk pv h1 h2 h3
        replace h := bif_some h
        obtain ⟨hb, h⟩ := h
        have hb := Nat.eq_of_beq_eq_true hb
        subst hb
        split at h
        · rename_i e' es hg
          cases h
          have e1 := hq (_, _) List.mem_cons_self
          have e2 := hq (_, _) (List.mem_cons_of_mem _ List.mem_cons_self)
          injection e1 with e1
          injection e2 with e2
          exact gen_ok hg (fun y hy => hq y (List.mem_cons_of_mem _ (List.mem_cons_of_mem _ hy))) (hl o x k v id pk pv ho e1 e2).g
        · cases h
      · cases h
    · cases h
  | cs hl =>
    simp only [effI] at h
    split at h
    · rename_i c ho
      split at h
      · rename_i g x y h1 h2
        split at h
        · rename_i f' a b h3 h4 h5
          replace h := bif_some h
          obtain ⟨hb, h⟩ := h
          have hb := Nat.eq_of_beq_eq_true hb
          subst hb
          cases h
          have hc : c = { callee := .value g, args := #[x, y], argTypes := c.argTypes } := by
            obtain ⟨c1, c2, c3⟩ := c
            simp only at h1 h2
            subst h1
            have : c2 = #[x, y] := by apply Array.ext'; simpa using h2
            subst this; rfl
          refine ⟨(hl o x y g c.argTypes (strL a) (strL b) (ho.trans (congrArg Op.call hc))).g, ⟨⟨_, h3, Le.same⟩, ⟨_, h4, ?_⟩, ⟨_, h5, ?_⟩, trivial⟩, trivial⟩
          · rw [mkS_strL]; exact Le.same
          · rw [mkS_strL]; exact Le.same
        · cases h
      · cases h
    · cases h
  | T => simp [effI] at h
  | N => simp [effI] at h
  | k _ => simp [effI] at h
  | kk _ _ => simp [effI] at h
  | frz _ _ => simp [effI] at h
  | ren _ _ _ => simp [effI] at h
  | ownR _ _ _ _ _ _ => simp [effI] at h
  | ownC _ _ _ _ _ _ _ => simp [effI] at h
  | rd _ _ => simp [effI] at h
  | tell _ _ => simp [effI] at h
  | kp _ _ _ => simp [effI] at h
end Go.Ab
