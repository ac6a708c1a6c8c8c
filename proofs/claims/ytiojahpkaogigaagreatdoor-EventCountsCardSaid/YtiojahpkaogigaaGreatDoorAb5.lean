/- Append, slicing, own arrays' cells; calls; and how operations, regions and code are told by abstract states. Conditions: none. -/
import Derived.Test.YtiojahpkaogigaaGreatDoorAb4
namespace Go.Ab
variable {wr wr2 : Bool}

section
variable {P : Program} {o : Oper}

/-- What 'append' asks of a slice's type. -/
structure AT (P : Program) (t e : TypeId) (sz bytes : Nat) : Prop where
  desc : P.underlying t = some (.slice e)
  info : ∃ i z, P.info? e = some i ∧ i.size = sz ∧ i.bytes = bytes ∧ i.zero = some z ∧ z.cells.size = sz
  pos : 0 < sz

theorem Rws.append {F : Fz} {sz : Nat} {xs ys : List (List FV)} {us vs : List Value} (h : Rws F sz xs us) (k : Rws F sz ys vs) : Rws F sz (xs ++ ys) (us ++ vs) := by
  refine ⟨by rw [List.length_append, h.1, k.1, List.length_append, Nat.add_mul], fun i x hi => ?_, fun i j x y hi hj => ?_⟩
  · by_cases hl : i < xs.length
    · rw [List.getElem?_append_left hl] at hi; exact h.2.1 i x hi
    · rw [List.getElem?_append_right (by omega)] at hi; exact k.2.1 _ x hi
  · by_cases hl : i < xs.length
    · rw [List.getElem?_append_left hl] at hi
      obtain ⟨u, hu, hr⟩ := h.2.2 i j x y hi hj
      have hlt : i * sz + j < us.length := by
        rcases Nat.lt_or_ge (i * sz + j) us.length with h' | h'
        · exact h'
        · simp [List.getElem?_eq_none h'] at hu
      exact ⟨u, by rw [List.getElem?_append_left hlt]; exact hu, hr⟩
    · rw [List.getElem?_append_right (by omega)] at hi
      obtain ⟨u, hu, hr⟩ := k.2.2 _ j x y hi hj
      refine ⟨u, ?_, hr⟩
      have e : i * sz = xs.length * sz + (i - xs.length) * sz := by rw [← Nat.add_mul]; congr 1; omega
      rw [List.getElem?_append_right (by rw [h.1, e]; omega), h.1, e, show xs.length * sz + (i - xs.length) * sz + j - xs.length * sz = (i - xs.length) * sz + j by omega]
      exact hu

theorem append_core {t e : TypeId} {sz bytes : Nat} {s x : Operand} {xs ys : List (List FV)} (ho : o.op = .call { callee := .builtin .append, args := #[s, x], argTypes := #[t, t] }) (hT : AT P t e sz bytes)
    {a : Act} {w : World} {F : Fz} {ν : Nu} {M : Mem} (hst : St F ν M w) (n : Nat) (hM : M n = none) (hs : ∀ id d, M id = some d → d.says n = false) (gone : Option Nat) {us news : List Value}
    (hown : w.ownsRow 0 e sz (a.eval s) xs.length us) (hr1 : Rws F sz xs us) (hold : ∀ k, blk (a.eval s) = some k → ∃ i d, gone = some i ∧ M i = some d ∧ blk (ν i) = some k) (hF : ∀ k, blk (a.eval s) = some k → ∀ o v, F k o = some v → wr = false ∧ us[o]? = some v)
    (hx : (a.eval x = .slice none 0 0 ∧ ys.length = 0) ∨ ∃ ad c, a.eval x = .slice (some ad) ys.length c ∧ ∀ (j : Nat) (u : Value), news[j]? = some u → w.cell? (ad.add j) = some u) (hr2 : Rws F sz ys news) (h1 : ∀ u ∈ news, u.oneCell' = true)
    (hb : (xs.length + ys.length) * bytes ≤ 140737488355328) (h63 : xs.length + ys.length ≤ maxLen) (K : Act → World → Prop) (Q : Exit → Act → World → Prop)
    (hK : ∀ v w' F' ν', (∀ p, some (PV.osl n) = some p → VR F' ν' v p) → St F' ν' (updM M ((n, some (.arr wr e sz (xs ++ ys))) :: goneL gone)) w' → Ext F ν M w F' ν' (updM M ((n, some (.arr wr e sz (xs ++ ys))) :: goneL gone)) w' → (∀ id, id ∉ [n] → ν' id = ν id) → K (a.put o.dst v) w') :
    o.wp P a w K Q := by
  obtain ⟨i, z, hi1, hi2, hi3, hi4, hi5⟩ := hT.info
  obtain ⟨v', w', hrun, hown', hos, htp, hou, hsz, hk, hbk⟩ := append_any (P := P) t o.type e i z sz hT.desc hi1 hi4 hi2 hi5 hT.pos (a.eval s) xs.length us hown (a.eval x) ys.length news hx hr2.1 h1 (by rw [hi3]; exact hb) h63
  have hrun' : (execOp a.eval o).run P w = .ok (.value v') w' := by
    unfold execOp
    simp only [ho, resolve, invoke, builtin, Sem.run_bind, Sem.run_pure, Result.andThen_ok, List.map_toArray, List.map_cons, List.map_nil, hrun]
  unfold Oper.wp
  rw [hrun']
  simp only [Oper.upon]
  have hone : v'.oneCell' = true := by
    rcases hown'.2 with ⟨rfl, _⟩ | ⟨g, cap, cur, rfl, _⟩ <;> rfl
  have hFn : ∀ b, blk v' = some b → ∀ o v, F b o = some v → wr = false ∧ (us ++ news)[o]? = some v := fun b hb o v hv => by
    rcases hbk b hb with h | h
    · obtain ⟨hwr, hu⟩ := hF b h o v hv
      refine ⟨hwr, ?_⟩
      have hlt : o < us.length := by
        rcases Nat.lt_or_ge o us.length with h' | h'
        · exact h'
        · simp [List.getElem?_eq_none h'] at hu
      rw [List.getElem?_append_left hlt]; exact hu
    · rw [hst.none_of_size h o] at hv; cases hv
  have hFc : ∀ k, blk (a.eval s) = some k → ∀ o v, F k o = some v → w'.cell? ⟨k, o, none⟩ = some v := fun k hk' o v hv => by
    by_cases hbv : blk v' = some k
    · have hg : v'.ownBlock = some k := by
        rcases hown'.2 with ⟨rfl, _⟩ | ⟨g, cap, cur, rfl, _⟩
        · simp [blk] at hbv
        · simpa [blk, Value.ownBlock] using hbv
      have := hown'.cells hg o v (hFn k hbv o v hv).2
      rw [add_flat] at this; simpa using this
    · have hc := hst.fz k o v hv
      have hlt := World.block_lt_of_cell? w _ hc
      rw [World.cell?_of_block (w := w) (a := ⟨k, o, none⟩) (hk k hlt (.inr hbv))]
      exact hc
  have her : ER F (upN ν n v') w' v' (.arr wr e sz (xs ++ ys)) := ⟨hT.pos, us ++ news, by simpa using hown', hr1.append hr2, hFn⟩
  exact hK v' w' F (upN ν n v') (fun p hp => by cases hp; simp only [VR, upN_same, true_and]; exact hone)
    (hst.move gone n v' _ hM hs (blk (a.eval s)) hold (fun k hk' hne => hk k hk' (.inl hne)) hbk hFc her)
    (Ext.move gone n v' _ (blk (a.eval s)) hold (fun k hk' hne => hk k hk' (.inl hne)) hbk hsz hos htp hou) (fun id hid => upN_other ν v' (by simpa using hid))

theorem OpT.append {t e : TypeId} {sz bytes id n : Nat} {s x : Operand} {xs ys : List (List FV)} (ho : o.op = .call { callee := .builtin .append, args := #[s, x], argTypes := #[t, t] }) (hT : AT P t e sz bytes)
    (hy : ys.all (fun r => r.length == sz) = true) (hb : (xs.length + ys.length) * bytes ≤ 140737488355328) (h63 : xs.length + ys.length ≤ maxLen) :
    OpT P o [(s, .osl id), (x, .c (.sl ys))] [(id, .arr wr e sz xs)] (some (.osl n)) [(n, some (.arr wr e sz (xs ++ ys))), (id, none)] [n] := by
  intro a w F ν M hst hi hm hn hs K Q hK
  have h1 := hi (s, .osl id) (by simp)
  have h2 := hi (x, .c (.sl ys)) (by simp)
  simp only [VR] at h1 h2
  have hM := hm (id, .arr wr e sz xs) (by simp)
  obtain ⟨hz, us, e1, e2, e3⟩ := hst.ents id _ hM
  obtain ⟨news, f1, f2, f3⟩ := srcF hst h2 hy
  rw [← h1.1] at e1 e3
  exact append_core ho hT hst n (hn n (by simp)) (fun i d h => hs i d h n (by simp)) (some id) e1 e2 (fun k hk => ⟨id, _, rfl, hM, by rw [← h1.1]; exact hk⟩) e3 f1 f2 f3 hb h63 K Q hK

theorem OpT.appendN {t e : TypeId} {sz bytes n : Nat} {s x : Operand} {ys : List (List FV)} (ho : o.op = .call { callee := .builtin .append, args := #[s, x], argTypes := #[t, t] }) (hT : AT P t e sz bytes)
    (hy : ys.all (fun r => r.length == sz) = true) (hb : ys.length * bytes ≤ 140737488355328) (h63 : ys.length ≤ maxLen) :
    OpT P o [(s, .c (.raw (.slice none 0 0))), (x, .c (.sl ys))] [] (some (.osl n)) [(n, some (.arr wr e sz ys))] [n] := by
  intro a w F ν M hst hi hm hn hs K Q hK
  have h1 := VR.raw (hi (s, .c (.raw (.slice none 0 0))) (by simp))
  have h2 := hi (x, .c (.sl ys)) (by simp)
  simp only [VR] at h2
  obtain ⟨news, f1, f2, f3⟩ := srcF hst h2 hy
  refine append_core (xs := []) (us := []) ho hT hst n (hn n (by simp)) (fun i d h => hs i d h n (by simp)) none ?_ ⟨by simp, by simp, by simp⟩ (fun k hk => ?_) (fun k hk => ?_) f1 f2 f3 (by simpa using hb) (by simpa using h63) K Q (by simpa [goneL] using hK)
  · rw [h1]; exact World.ownsRow_nil w 0 e sz
  · rw [h1] at hk; simp [blk] at hk
  · rw [h1] at hk; simp [blk] at hk

theorem srcO {F : Fz} {ν : Nu} {M : Mem} {w : World} (hst : St F ν M w) {id : Nat} {e : TypeId} {sz : Nat} {ys : List (List FV)} (hM : M id = some (.arr wr e sz ys)) :
    ∃ news : List Value, ((ν id = .slice none 0 0 ∧ ys.length = 0) ∨ ∃ ad c, ν id = .slice (some ad) ys.length c ∧ ∀ (j : Nat) (u : Value), news[j]? = some u → w.cell? (ad.add j) = some u) ∧ Rws F sz ys news ∧ ∀ u ∈ news, u.oneCell' = true := by
  obtain ⟨hz, us, e1, e2, e3⟩ := hst.ents id _ hM
  refine ⟨us, ?_, e2, ?_⟩
  · rcases e1.2 with h | ⟨g, cap, cur, h1, _⟩
    · exact .inl h
    · exact .inr ⟨⟨g, 0, none⟩, cap, h1, e1.cells (g := g) (by rw [h1]; rfl)⟩
  · intro u hu
    obtain ⟨j, hj⟩ := List.getElem?_of_mem hu
    have hlt : j < us.length := by
      rcases Nat.lt_or_ge j us.length with h' | h'
      · exact h'
      · simp [List.getElem?_eq_none h'] at hj
    rw [e2.1] at hlt
    have hq : j / sz < ys.length := Nat.div_lt_of_lt_mul (by rwa [Nat.mul_comm] at hlt)
    have hr : j % sz < sz := Nat.mod_lt _ hz
    have hl := e2.2.1 (j / sz) ys[j / sz] (by simp [hq])
    obtain ⟨u', hu', hr'⟩ := e2.2.2 (j / sz) (j % sz) ys[j / sz] (ys[j / sz]'hq)[j % sz] (by simp [hq]) (by simp [hl, hr])
    rw [Nat.mul_comm, Nat.div_add_mod, hj] at hu'
    simp at hu'; subst hu'
    exact hr'.oneCell

theorem OpT.appendO {t e : TypeId} {sz bytes id id2 n : Nat} {s x : Operand} {xs ys : List (List FV)} (ho : o.op = .call { callee := .builtin .append, args := #[s, x], argTypes := #[t, t] }) (hT : AT P t e sz bytes)
    (hb : (xs.length + ys.length) * bytes ≤ 140737488355328) (h63 : xs.length + ys.length ≤ maxLen) {e2 : TypeId} :
    OpT P o [(s, .osl id), (x, .osl id2)] [(id, .arr wr e sz xs), (id2, .arr wr2 e2 sz ys)] (some (.osl n)) [(n, some (.arr wr e sz (xs ++ ys))), (id, none)] [n] := by
  intro a w F ν M hst hi hm hn hs K Q hK
  have h1 := hi (s, .osl id) (by simp)
  have h2 := hi (x, .osl id2) (by simp)
  simp only [VR] at h1 h2
  have hM := hm (id, .arr wr e sz xs) (by simp)
  have hM2 := hm (id2, .arr wr2 e2 sz ys) (by simp)
  obtain ⟨hz, us, e1, e2, e3⟩ := hst.ents id _ hM
  obtain ⟨news, f1, f2, f3⟩ := srcO hst hM2
  rw [← h1.1] at e1 e3
  rw [← h2.1] at f1
  exact append_core ho hT hst n (hn n (by simp)) (fun i d h => hs i d h n (by simp)) (some id) e1 e2 (fun k hk => ⟨id, _, rfl, hM, by rw [← h1.1]; exact hk⟩) e3 f1 f2 f3 hb h63 K Q hK

theorem OpT.appendNO {t e : TypeId} {sz bytes id2 n : Nat} {s x : Operand} {ys : List (List FV)} (ho : o.op = .call { callee := .builtin .append, args := #[s, x], argTypes := #[t, t] }) (hT : AT P t e sz bytes)
    (hb : ys.length * bytes ≤ 140737488355328) (h63 : ys.length ≤ maxLen) {e2 : TypeId} :
    OpT P o [(s, .c (.raw (.slice none 0 0))), (x, .osl id2)] [(id2, .arr wr2 e2 sz ys)] (some (.osl n)) [(n, some (.arr wr e sz ys))] [n] := by
  intro a w F ν M hst hi hm hn hs K Q hK
  have h1 := VR.raw (hi (s, .c (.raw (.slice none 0 0))) (by simp))
  have h2 := hi (x, .osl id2) (by simp)
  simp only [VR] at h2
  obtain ⟨news, f1, f2, f3⟩ := srcO hst (hm (id2, .arr wr2 e2 sz ys) (by simp))
  rw [← h2.1] at f1
  refine append_core (xs := []) (us := []) ho hT hst n (hn n (by simp)) (fun i d h => hs i d h n (by simp)) none ?_ ⟨by simp, by simp, by simp⟩ (fun k hk => ?_) (fun k hk => ?_) f1 f2 f3 (by simpa using hb) (by simpa using h63) K Q (by simpa [goneL] using hK)
  · rw [h1]; exact World.ownsRow_nil w 0 e sz
  · rw [h1] at hk; simp [blk] at hk
  · rw [h1] at hk; simp [blk] at hk

/-- A nil slice begins a row of the call's own. -/
theorem OpT.own {x : Operand} {e : TypeId} {sz n : Nat} (ho : o.op = .assign x ∨ o.op = .move x) (hz : 0 < sz) : OpT P o [(x, .c (.raw (.slice none 0 0)))] [] (some (.osl n)) [(n, some (.arr wr e sz []))] [n] := by
  intro a w F ν M hst hi hm hn hs K Q hK
  have h1 := VR.raw (hi (x, .c (.raw (.slice none 0 0))) (by simp))
  have hrun : (execOp a.eval o).run P w = .ok (.value (.slice none 0 0)) w := by
    rcases ho with ho | ho <;> simp [execOp, ho, h1]
  unfold Oper.wp
  rw [hrun]
  simp only [Oper.upon]
  have her : ER F (upN ν n (.slice none 0 0)) w (.slice none 0 0) (.arr wr e sz []) := ⟨hz, [], World.ownsRow_nil w 0 e sz, ⟨by simp, by simp, by simp⟩, fun b hb => by simp [blk] at hb⟩
  exact hK _ w F (upN ν n (.slice none 0 0)) (fun p hp => by cases hp; simp only [VR, upN_same, true_and]; rfl)
    (hst.move none n _ _ (hn n (by simp)) (fun i d h => hs i d h n (by simp)) none (by simp) (fun _ _ _ => rfl) (fun b hb => by simp [blk] at hb) (by simp) her)
    (Ext.move none n _ _ none (by simp) (fun _ _ _ => rfl) (fun b hb => by simp [blk] at hb) (Nat.le_refl _) rfl rfl rfl) (fun id hid => upN_other ν _ (by simpa using hid))

/-- Slicing what is frozen: 'x[l:h]'. -/
theorem run_sliceF {F : Fz} {t e : TypeId} {sz : Nat} {xs : List (List FV)} {x : Value} (hs : SI P t e sz) (hx : FR F x (.sl xs)) (hall : xs.all (fun r => r.length == sz) = true) (lo hi : Option Value) (l h : Nat)
    (hlo : (lo = none ∧ l = 0) ∨ ∃ k : IntKind, lo = some (.int k l)) (hhi : (hi = none ∧ h = xs.length) ∨ ∃ k : IntKind, hi = some (.int k h)) (hl : l ≤ h) (hh : h ≤ xs.length) (w : World) :
    ∃ v, (Instr.slice t x lo hi none).run P w = .ok v w ∧ FR F v (.sl ((xs.take h).drop l)) := by
  simp only [FR] at hx
  obtain ⟨a, c, rfl, hc, hcm, h0, hr⟩ := hx
  have hlen : ((xs.take h).drop l).length = h - l := by simp; omega
  have hb1 : ∀ w, (Instr.sliceBounds true xs.length c lo hi none).run P w = .ok (l, h, c) w := by
    intro w
    rcases hlo with ⟨rfl, rfl⟩ | ⟨k, rfl⟩ <;> rcases hhi with ⟨rfl, rfl⟩ | ⟨k', rfl⟩
    · simp [Instr.sliceBounds]
    · have e1 : h ≤ c := by omega
      simp [Instr.sliceBounds, Instr.sliceBound, asIntOf, e1]
    · have e1 : l ≤ xs.length := by omega
      simp [Instr.sliceBounds, Instr.sliceBound, asIntOf, e1]
    · have e1 : h ≤ c := by omega
      have e2 : l ≤ h := by omega
      simp [Instr.sliceBounds, Instr.sliceBound, asIntOf, e1, e2]
  refine ⟨.slice (if c = l then a else a.map (·.add (l * sz))) (h - l) (c - l), by simp [Instr.slice, run_underlying hs.desc, hb1, hs.sizeOf], ?_⟩
  simp only [FR, hlen]
  refine ⟨_, _, rfl, by omega, by omega, fun hn => ?_, ?_⟩
  · by_cases hcl : c = l
    · omega
    · simp only [hcl, if_false, Option.map_eq_none_iff] at hn
      have := h0 hn; omega
  · by_cases hlh : h - l = 0
    · exact .inl (List.eq_nil_of_length_eq_zero (by rw [hlen, hlh]))
    · rcases hr with rfl | ⟨b, o, sz', rfl, hr⟩
      · simp at hh; omega
      · refine .inr ⟨b, o + l * sz, sz, ?_, ?_⟩
        · rw [if_neg (by omega)]; simp [add_flat]
        · apply FRrows.of_get
          intro k y hk
          rw [List.getElem?_drop, List.getElem?_take] at hk
          split at hk
          · have hg := hr.get hk
            have hsz : y.length = sz := by simpa using List.all_eq_true.1 hall y (List.mem_of_getElem? hk)
            have : sz' = sz := by rw [← hg.1, hsz]
            subst this
            refine ⟨hsz, ?_⟩
            have h2 := hg.2
            rwa [Nat.add_mul, ← Nat.add_assoc] at h2
          · cases hk

theorem OpT.sliceF {t e : TypeId} {sz : Nat} {xs zs : List (List FV)} {x : Operand} {lo hi : Option Operand} {l h : Nat} {ins : List (Operand × PV)} (ho : o.op = .slice t x lo hi none) (hs : SI P t e sz) (hall : xs.all (fun r => r.length == sz) = true)
    (hlo : (lo = none ∧ l = 0) ∨ ∃ (q : Operand) (k : IntKind), lo = some q ∧ (q, .c (.raw (.int k l))) ∈ ins) (hhi : (hi = none ∧ h = xs.length) ∨ ∃ (q : Operand) (k : IntKind), hi = some q ∧ (q, .c (.raw (.int k h))) ∈ ins) (hl : l ≤ h) (hh : h ≤ xs.length)
    (hz : (xs.take h).drop l = zs) : OpT P o ((x, .c (.sl xs)) :: ins) [] (some (.c (.sl zs))) [] [] :=
  OpT.pure fun a w F ν M _ hi' _ => by
    have hx := hi' (x, .c (.sl xs)) (by simp)
    simp only [VR] at hx
    subst hz
    obtain ⟨v, h1, h2⟩ := run_sliceF hs hx hall (lo.map a.eval) (hi.map a.eval) l h
      (by
        rcases hlo with ⟨rfl, rfl⟩ | ⟨q, k, rfl, hm⟩
        · exact .inl ⟨rfl, rfl⟩
        · exact .inr ⟨k, by simp [VR.raw (hi' _ (List.mem_cons_of_mem _ hm))]⟩)
      (by
        rcases hhi with ⟨rfl, rfl⟩ | ⟨q, k, rfl, hm⟩
        · exact .inl ⟨rfl, rfl⟩
        · exact .inr ⟨k, by simp [VR.raw (hi' _ (List.mem_cons_of_mem _ hm))]⟩) hl hh w
    refine ⟨v, ?_, by simpa only [VR] using h2⟩
    simp [execOp, ho, Instr.sliceAt, run_underlying hs.desc, h1]

theorem VR.aptr {F : Fz} {ν : Nu} {v : Value} {id sz i off : Nat} (h : VR F ν v (.aptr id sz i off)) : ∃ b n cp, ν id = .slice (some ⟨b, 0, none⟩) n cp ∧ v = .pointer (some ⟨b, i * sz + off, none⟩) := by simpa only [VR] using h

theorem arr_cell {F : Fz} {ν : Nu} {M : Mem} {w : World} (hst : St F ν M w) {id : Nat} {e : TypeId} {sz : Nat} {xs : List (List FV)} (hM : M id = some (.arr wr e sz xs)) {b n cp : Nat} (hν : ν id = .slice (some ⟨b, 0, none⟩) n cp)
    {i j : Nat} {x : List FV} {y : FV} (hx : xs[i]? = some x) (hy : x[j]? = some y) : ∃ u, w.cell? ⟨b, i * sz + j, none⟩ = some u ∧ FR F u y := by
  obtain ⟨hz, us, e1, e2, e3⟩ := hst.ents id _ hM
  obtain ⟨u, hu, hr⟩ := e2.2.2 i j x y hx hy
  have := e1.cells (g := b) (by rw [hν]; rfl) _ u hu
  rw [add_flat] at this
  exact ⟨u, by simpa using this, hr⟩

theorem OpT.loadA {t e : TypeId} {x : Operand} {id sz i off : Nat} {xs : List (List FV)} {cs : List FV} {y : FV} (ho : o.op = .load t x) (ht : TI P t false 1) (hx : xs[i]? = some cs) (hy : cs[off]? = some y) :
    OpT P o [(x, .aptr id sz i off)] [(id, .arr wr e sz xs)] (some (.c y)) [] [] :=
  OpT.pure fun a w F ν M hst hi hm => by
    obtain ⟨b, n, cp, hν, hv⟩ := VR.aptr (hi (x, .aptr id sz i off) (by simp))
    obtain ⟨u, hu, hr⟩ := arr_cell hst (hm (id, .arr wr e sz xs) (by simp)) hν hx hy
    refine ⟨u, ?_, by simpa only [VR] using hr⟩
    have := run_loadVar ht w b (i * sz + off) [u] rfl (by simp) (fun j u' hu' => by
      cases j with
      | zero => simp at hu'; subst hu'; exact hu
      | succ j => simp at hu')
    simp [execOp, ho, hv, Instr.loadAt, Instr.sureAddr, this]

theorem OpT.loadAggA {t e : TypeId} {x : Operand} {id sz i off n : Nat} {xs : List (List FV)} {cs ys : List FV} (ho : o.op = .load t x) (ht : TI P t true n) (hx : xs[i]? = some cs) (hy : (cs.drop off).take n = ys) (hl : ys.length = n) :
    OpT P o [(x, .aptr id sz i off)] [(id, .arr wr e sz xs)] (some (.agg (ys.map .c))) [] [] :=
  OpT.pure fun a w F ν M hst hi hm => by
    obtain ⟨b, n', cp, hν, hv⟩ := VR.aptr (hi (x, .aptr id sz i off) (by simp))
    have hcell : ∀ k y, ys[k]? = some y → ∃ u, w.cell? ⟨b, i * sz + off + k, none⟩ = some u ∧ FR F u y := by
      intro k y hk
      rw [← hy, List.getElem?_take] at hk
      split at hk
      · rw [List.getElem?_drop] at hk
        obtain ⟨u, hu, hr⟩ := arr_cell hst (hm (id, .arr wr e sz xs) (by simp)) hν hx hk
        exact ⟨u, by rw [Nat.add_assoc]; exact hu, hr⟩
      · cases hk
    have key : ∀ (ys : List FV) (o : Nat), (∀ k y, ys[k]? = some y → ∃ u, w.cell? ⟨b, o + k, none⟩ = some u ∧ FR F u y) → ∃ us : List Value, us.length = ys.length ∧ (∀ k u, us[k]? = some u → w.cell? ⟨b, o + k, none⟩ = some u) ∧ VRs F ν us (ys.map .c) := by
      intro ys
      induction ys with
      | nil => intro o _; exact ⟨[], rfl, by simp, by simp [VRs]⟩
      | cons y ys ih =>
        intro o h
        obtain ⟨u, hu, hr⟩ := h 0 y (by simp)
        obtain ⟨us, e1, e2, e3⟩ := ih (o + 1) (fun k z hk => by
          have := h (k + 1) z (by simpa using hk)
          rwa [show o + 1 + k = o + (k + 1) by omega])
        refine ⟨u :: us, by simp [e1], fun k v hk => ?_, ?_⟩
        · cases k with
          | zero => simp at hk; subst hk; simpa using hu
          | succ k => have := e2 k v (by simpa using hk); rwa [show o + 1 + k = o + (k + 1) by omega] at this
        · simp only [List.map_cons, VRs, VR]; exact ⟨u, us, rfl, hr, e3⟩
    obtain ⟨us, e1, e2, e3⟩ := key ys (i * sz + off) hcell
    refine ⟨.agg us.toArray, ?_, by simp only [VR]; exact ⟨us, rfl, e3⟩⟩
    have := run_loadVar ht w b (i * sz + off) us (by rw [e1, hl]) (by simp) e2
    simp [execOp, ho, hv, Instr.loadAt, Instr.sureAddr, this]

theorem OpT.fieldAddrA {s : TypeId} {x : Operand} {f off id sz i k : Nat} (ho : o.op = .fieldAddr s x f) (hf : FI P s f off) : OpT P o [(x, .aptr id sz i k)] [] (some (.aptr id sz i (k + off))) [] [] :=
  OpT.pure fun a w F ν M hst hi hm => by
    obtain ⟨b, n, cp, hν, hv⟩ := VR.aptr (hi (x, .aptr id sz i k) (by simp))
    exact ⟨.pointer (some ⟨b, i * sz + k + off, none⟩), by simp [execOp, ho, hv, run_fieldAt hf], by simp only [VR]; exact ⟨b, n, cp, hν, by rw [Nat.add_assoc]⟩⟩

/-- A pointer into an array variable. -/
theorem OpT.indexAF {t e : TypeId} {x ix : Operand} {len sz : Nat} {cells ys : List FV} {k : IntKind} {n : Int} (ho : o.op = .indexAddr t x ix) (ht : P.underlying t = some (.array len e)) (hsz : (P.info? e).map (·.size) = some sz)
    (h0 : 0 ≤ n) (hn : n < len) (hd : cells.drop (n.toNat * sz) = ys) : OpT P o [(x, .fptr cells), (ix, .c (.raw (.int k n)))] [] (some (.fptr ys)) [] [] :=
  OpT.pure fun a w F ν M hst hi hm => by
    have h := hi (x, .fptr cells) (by simp)
    have h2 := VR.raw (hi (ix, .c (.raw (.int k n))) (by simp))
    simp only [VR] at h
    obtain ⟨b, k', hv, hc⟩ := h
    subst hd
    have hs : ∀ w, (Go.sizeOf e).run P w = .ok sz w := by
      intro w
      cases hq : P.info? e with
      | none => simp [hq] at hsz
      | some i => simp [hq] at hsz; simp [Go.sizeOf, typeInfo, hq, hsz]
    refine ⟨.pointer (some ⟨b, k' + n.toNat * sz, none⟩), ?_, by simp only [VR]; exact ⟨b, k' + n.toNat * sz, rfl, hc.drop _⟩⟩
    simp [execOp, ho, hv, h2, Instr.indexAt, asIntOf, run_underlying ht, Instr.sureAddr, h0, hn, hs, add_flat]
end
end Go.Ab
