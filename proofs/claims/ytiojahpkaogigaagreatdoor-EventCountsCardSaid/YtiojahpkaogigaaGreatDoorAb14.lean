/- A row of the call's own that is looked at as a frozen one. Conditions: none. -/
import Derived.Test.YtiojahpkaogigaaGreatDoorAb13
namespace Go.Ab
variable {wr wr2 : Bool}

theorem St.thaw {F : Fz} {ν : Nu} {M : Mem} {w : World} (h : St F ν M w) {id : Nat} {e : TypeId} {sz : Nat} {xs : List (List FV)} (hid : M id = some (.arr false e sz xs)) :
    ∃ F', F.le F' ∧ St F' ν M w ∧ FR F' (ν id) (.sl xs) ∧ Ext F ν M w F' ν M w := by
  obtain ⟨hz, us, h1, h2, h3⟩ := h.ents id _ hid
  have hle : F.le (fun b o => if blk (ν id) = some b then us[o]? else F b o) := fun b o v hv => by
    show (if blk (ν id) = some b then us[o]? else F b o) = some v
    split
    · rename_i hb; exact (h3 b hb o v hv).2
    · exact hv
  refine ⟨fun b o => if blk (ν id) = some b then us[o]? else F b o, hle, ?_⟩
  have hy : FR (fun b o => if blk (ν id) = some b then us[o]? else F b o) (ν id) (.sl xs) := by
    simp only [FR]
    rcases h1.2 with ⟨hv, hn⟩ | ⟨g, cap, cur, hv, _, _, hnc, hcm, _, _⟩
    · refine ⟨none, 0, by rw [hv, hn], by omega, by simp [maxLen], fun _ => rfl, .inl (List.eq_nil_of_length_eq_zero hn)⟩
    · refine ⟨_, cap, hv, hnc, hcm, by simp, .inr ⟨g, 0, sz, rfl, FRrows.of_get fun k x hk => ⟨h2.2.1 k x hk, FRcells.of_get fun j y hj => ?_⟩⟩⟩
      obtain ⟨u, hu, hr⟩ := h2.2.2 k j x y hk hj
      refine ⟨u, ?_, hr.mono hle⟩
      simp only [Nat.zero_add]
      rw [if_pos (by rw [hv]; rfl)]; exact hu
  refine ⟨⟨fun b o v hv => ?_, fun i d hd => ?_, h.dist⟩, hy, ⟨rfl, rfl, rfl, Nat.le_refl _, hle, fun b hb hn => ⟨rfl, fun o => ?_⟩, fun i d b hi hb => .inl ⟨i, d, hi, hb⟩⟩⟩
  · change (if blk (ν id) = some b then us[o]? else F b o) = some v at hv
    split at hv
    · rename_i hb
      have hg : (ν id).ownBlock = some b := by
        rcases h1.2 with ⟨hv', _⟩ | ⟨g, cap, cur, hv', _⟩
        · rw [hv'] at hb; simp [blk] at hb
        · rw [hv'] at hb ⊢; simpa [blk, Value.ownBlock] using hb
      have := h1.cells hg o v hv
      rw [add_flat] at this; simpa using this
    · exact h.fz b o v hv
  · by_cases hii : i = id
    · subst hii
      rw [hid] at hd; cases hd
      refine ⟨hz, us, h1, ⟨h2.1, h2.2.1, fun k j x y hk hj => ?_⟩, fun b hb o v hv => ?_⟩
      · obtain ⟨u, hu, hr⟩ := h2.2.2 k j x y hk hj
        exact ⟨u, hu, hr.mono hle⟩
      · change (if blk (ν i) = some b then us[o]? else F b o) = some v at hv
        rw [if_pos hb] at hv; exact ⟨rfl, hv⟩
    · exact (h.ents i d hd).mono (new := []) hle (fun _ => .inl rfl) (by simp) (fun b hb => ⟨rfl, fun o => by
        show (if blk (ν id) = some b then us[o]? else F b o) = F b o
        rw [if_neg (fun hb' => hii (h.dist i id d _ b hd hid hb hb'))]⟩)
  · show (if blk (ν id) = some b then us[o]? else F b o) = F b o
    rw [if_neg (hn id _ hid)]

/-- What is looked at. -/
abbrev Vw := List (Nat × TypeId × Nat × List (List FV))
def viewP : Vw → PV → PV
  | [], p => p
  | (id, _, _, xs) :: l, p => viewP l (p.fz id (.sl xs))
def viewI (vs : Vw) : List (Operand × PV) → List (Operand × PV)
  | [] => []
  | (x, p) :: l => (x, viewP vs p) :: viewI vs l
def viewM : Vw → List (Nat × Ent)
  | [] => []
  | (id, e, sz, xs) :: l => (id, .arr false e sz xs) :: viewM l

theorem viewI_cons (id : Nat) (e : TypeId) (sz : Nat) (xs : List (List FV)) (l : Vw) (ins : List (Operand × PV)) : viewI ((id, e, sz, xs) :: l) ins = viewI l (ins.map fun x => (x.1, x.2.fz id (.sl xs))) := by
  induction ins with
  | nil => rfl
  | cons x r ih => obtain ⟨x, p⟩ := x; simp only [viewI, List.map, viewP, ih]
theorem viewI_nil (ins : List (Operand × PV)) : viewI [] ins = ins := by
  induction ins with
  | nil => rfl
  | cons x r ih => obtain ⟨x, p⟩ := x; simp only [viewI, viewP, ih]
theorem viewI_zip (vs : Vw) : ∀ (xs : List Operand) (ps : List PV), viewI vs (xs.zip ps) = xs.zip (ps.map (viewP vs))
  | [], _ => rfl
  | _ :: _, [] => rfl
  | x :: xs, p :: ps => by simp only [List.zip_cons_cons, viewI, List.map, viewI_zip vs xs ps]

theorem OpTG.view {P : Program} {Γ : Gl} {o : Oper} {mem : List (Nat × Ent)} {pv : Option PV} {upd : MemL} {new : List Nat} : ∀ (vs : Vw) {ins : List (Operand × PV)}, OpTG P Γ o (viewI vs ins) mem pv upd new → OpTG P Γ o ins (viewM vs ++ mem) pv upd new
  | [], ins, h => by rw [viewI_nil] at h; exact h
  | (id, e, sz, xs) :: l, ins, h => by
    rw [viewI_cons] at h
    have ih := OpTG.view l h
    intro a w F ν M hg hst hi hm hn hs K Q hK
    obtain ⟨F', hle, hst', hy, hext⟩ := hst.thaw (hm (id, .arr false e sz xs) (by simp [viewM]))
    refine ih a w F' ν M (hg.mono hle) hst' (fun x hx => ?_) (fun x hx => hm x (by simp only [viewM, List.cons_append, List.mem_cons]; exact .inr hx)) hn hs K Q fun v w' F'' ν' h1 h2 h3 h4 => hK v w' F'' ν' h1 h2 (hext.trans h3) h4
    simp only [List.mem_map] at hx
    obtain ⟨y, hy', rfl⟩ := hx
    exact (hi y hy').fz hle hy

theorem MemOK.append {m : MemL} : ∀ {l l' : List (Nat × Ent)}, MemOK m l → MemOK m l' → MemOK m (l ++ l')
  | [], _, _, h => h
  | (_, _) :: _, _, h, h' => ⟨h.1, MemOK.append h.2 h'⟩

section
variable {C : Cx} {ops : Array Oper} {o : Oper} {r : Regs} {m : MemL}
namespace L
theorem callV {x : Operand} {xs : List Operand} {ts : Array TypeId} {f : FuncId} {caps : List PV} {mc mc' : MemL} {pv : PV} {new : List Nat} (vs : Vw) (ps ps' : List PV) (hC : ACalls C.P C.Γ f (ps ++ caps) mc pv mc' new) (hci : CI C.P f) (hin : InsOK C.Γ r (xs.zip ps')) (hm : MemOK m (entL mc)) (hvm : MemOK m (viewM vs))
    (ho : o.op = .call { callee := .value x, args := xs.toArray, argTypes := ts } := by rfl) (hx : OpIs C r x (.func f caps) := by exact ⟨_, by kernel_rfl, Le.same⟩) (hv : ps'.map (viewP vs) = ps := by kernel_rfl) (hvc : viewP vs (.func f caps) = .func f caps := by kernel_rfl)
    (ho1 : once mc = true := by kernel_rfl) (hmk : madeOK mc mc' new = true := by kernel_rfl) (hl : xs.length = ps.length := by kernel_rfl) (hf : fresh C.M m r new = true := by kernel_rfl) (hw : wants ops r o true := by exact rfl) (hd : dstOK C o.dst = true := by kernel_rfl) :
    SO C ops o r m ((x, .func f caps) :: xs.zip ps') (viewM vs ++ entL mc) (some pv) (mc' ++ kill mc) new := by
  have hT := OpTG.call (o := o) (x := x) (ts := ts) (xs := xs) ho hC hci ho1 hmk hl
  refine ⟨OpTG.view vs ?_, hw, ⟨hx, hin⟩, hvm.append hm, hf, hd⟩
  simp only [viewI, hvc, viewI_zip, hv]
  exact hT
theorem buildSliceV {t e : TypeId} {len sz : Nat} {is : List Nat} {xs : List Operand} {zs : List Value} (s : Nat) (vs : Vw) (ps ps' : List PV) (rows rows' : List (List FV)) (ht : SI C.P t e sz) (hz : ZI C.P e zs) (hin : InsOK C.Γ r (xs.zip ps')) (hvm : MemOK m (viewM vs)) (ho : o.op = .buildSlice t len (is.zip xs).toArray) (hrr : rows = rows') (hv : ps'.map (viewP vs) = ps := by kernel_rfl) (hz0 : zs.length = sz := by kernel_rfl) (hz1 : Nat.blt 0 sz = true := by kernel_rfl)
    (hone : (zeroL zs (len * sz)).all (·.oneCell') = true := by kernel_rfl) (hsmall : Nat.ble (len * sz) 16777216 = true := by kernel_rfl) (hl : is.length = ps.length := by kernel_rfl) (hl2 : xs.length = ps.length := by kernel_rfl) (hfl : ps.all PV.flat = true := by kernel_rfl)
    (hout : fillP (fun i => some (i * sz, sz)) ((zeroL zs (len * sz)).map fun v => .c (.raw v)) (is.zip ps) = some (rows.flatten.map .c) := by kernel_rfl) (hrl : rows.length = len := by kernel_rfl) (hrow : rows.all (fun r => r.length == sz) = true := by kernel_rfl) (hf : fresh C.M m r [s] = true := by kernel_rfl)
    (hw : wants ops r o true := by exact rfl) (hd : dstOK C o.dst = true := by kernel_rfl) : SO C ops o r m (xs.zip ps') (viewM vs ++ []) (some (.osl s)) [(s, some (.arr wr e sz rows'))] [s] := by
  obtain ⟨i, z, h1, h2, h3, h4⟩ := hz.zero
  subst hrr
  have h0 : 0 < sz := Nat.lt_of_lt_of_le (Nat.zero_lt_one) (Nat.le_of_ble_eq_true hz1)
  have hT := OpT.buildSlice (wr := wr) (P := C.P) (s := s) ho ht.desc h1 (h4.trans hz0) h0 h2 h3 hone (Nat.le_of_ble_eq_true hsmall) hl hl2 hfl hout hrl hrow
  refine ⟨OpTG.view vs ?_, hw, hin, hvm.append trivial, hf, hd⟩
  rw [viewI_zip, hv]
  exact hT.g
end L
end
end Go.Ab
