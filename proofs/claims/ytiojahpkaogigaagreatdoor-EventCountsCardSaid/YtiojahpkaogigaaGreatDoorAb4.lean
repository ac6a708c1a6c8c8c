/- The rules of struct and slice literals, append, slicing, and of pointers into own arrays. Conditions: none. -/
import Derived.Test.YtiojahpkaogigaaGreatDoorAb3
namespace Go.Ab
variable {wr wr2 : Bool}

theorem fold_set (off : Nat) : ∀ (vs : List Value) (k : Nat) (cs : Array Value), off + k + vs.length ≤ cs.size →
    ((vs.zipIdx k).foldl (fun cs x => cs.setIfInBounds (off + x.2) x.1) cs).toList = cs.toList.take (off + k) ++ vs ++ cs.toList.drop (off + k + vs.length)
  | [], k, cs, _ => by simp
  | v :: vs, k, cs, h => by
    simp only [List.zipIdx_cons, List.foldl_cons]
    rw [fold_set off vs (k + 1) _ (by simp at h ⊢; omega)]
    have e := list_seg_step cs.toList (off + k) v vs (by simp at h ⊢; omega)
    simpa [Array.toList_setIfInBounds, Nat.add_assoc] using e

def fillP (place : Nat → Option (Nat × Nat)) (cells : List PV) : List (Nat × PV) → Option (List PV)
  | [] => some cells
  | (i, p) :: rest =>
    match place i with
    | none => none
    | some (off, size) => if p.cells.length ≠ size || off + p.cells.length > cells.length then none else fillP place (splice cells off p.cells) rest

theorem fill_sim {F : Fz} {ν : Nu} {place : Nat → Option (Nat × Nat)} : ∀ {ps : List PV} {is : List Nat} {vs : List Value} {cells : Array Value} {cp out : List PV}, VRs F ν cells.toList cp → (∀ u ∈ cells.toList, u.oneCell' = true) →
    VRs F ν vs ps → ps.all PV.flat = true → is.length = ps.length → fillP place cp (is.zip ps) = some out →
    ∃ us : List Value, Instr.fill place cells (is.zip vs) = some us.toArray ∧ VRs F ν us out ∧ ∀ u ∈ us, u.oneCell' = true
  | [], is, vs, cells, cp, out, hc, h1, hv, _, hl, hf => by
    simp only [VRs] at hv; subst hv
    have : is = [] := List.eq_nil_of_length_eq_zero hl
    subst this
    simp only [List.zip_nil_left, fillP, Option.some.injEq] at hf; subst hf
    exact ⟨cells.toList, by simp [Instr.fill], hc, h1⟩
  | p :: ps, [], vs, cells, cp, out, hc, h1, hv, _, hl, hf => by simp at hl
  | p :: ps, i :: is, vs, cells, cp, out, hc, h1, hv, ha, hl, hf => by
    simp only [VRs] at hv
    obtain ⟨v, r, rfl, hv1, hv2⟩ := hv
    simp only [List.all_cons, Bool.and_eq_true] at ha
    simp only [List.zip_cons_cons, fillP] at hf
    cases hp : place i with
    | none => simp [hp] at hf
    | some q =>
      obtain ⟨off, size⟩ := q
      simp only [hp] at hf
      split at hf
      · cases hf
      · rename_i hcond
        simp only [Bool.or_eq_true, decide_eq_true_eq, not_or, Decidable.not_not, Nat.not_lt] at hcond
        have hx := hv1.cells ha.1
        have hlen : v.cells.size = size := by rw [← Array.length_toList, hx.1.length]; exact hcond.1
        have hlen2 : off + v.cells.size ≤ cells.size := by rw [hlen, ← hcond.1, ← Array.length_toList, hc.length]; omega
        have hfold : (v.cells.zipIdx.foldl (fun cs (x : Value × Nat) => cs.setIfInBounds (off + x.2) x.1) cells).toList = cells.toList.take off ++ v.cells.toList ++ cells.toList.drop (off + v.cells.toList.length) := by
          have := fold_set off v.cells.toList 0 cells (by simpa using hlen2)
          rw [← Array.foldl_toList, Array.toList_zipIdx]
          simpa using this
        have hsp : VRs F ν (v.cells.zipIdx.foldl (fun cs (x : Value × Nat) => cs.setIfInBounds (off + x.2) x.1) cells).toList (splice cp off p.cells) := by
          rw [hfold, splice, hx.1.length]
          exact ((hc.take off).append hx.1).append (hc.drop _)
        have hone : ∀ u ∈ (v.cells.zipIdx.foldl (fun cs (x : Value × Nat) => cs.setIfInBounds (off + x.2) x.1) cells).toList, u.oneCell' = true := by
          rw [hfold]
          intro u hu
          simp only [List.mem_append] at hu
          rcases hu with (hu | hu) | hu
          · exact h1 u (List.mem_of_mem_take hu)
          · exact hx.2 u hu
          · exact h1 u (List.mem_of_mem_drop hu)
        obtain ⟨us, e1, e2, e3⟩ := fill_sim (ps := ps) (is := is) (vs := r) hsp hone hv2 ha.2 (by simpa using hl) hf
        refine ⟨us, ?_, e2, e3⟩
        simp only [List.zip_cons_cons, Instr.fill, hp]
        rw [if_neg]
        · exact e1
        · simp only [Bool.or_eq_true, decide_eq_true_eq, not_or, Decidable.not_not]
          exact ⟨hlen, by omega⟩

section
variable {P : Program} {o : Oper}

/-- A struct's type: its cells when it is zero, where its fields lie. -/
structure BI (P : Program) (t : TypeId) (zs : List Value) (places : List (Nat × Nat)) : Prop where
  zero : ∃ i z, P.info? t = some i ∧ i.zero = some z ∧ z.cells = zs.toArray
  one : zs.all (·.oneCell') = true
  desc : ∃ fs, P.underlying t = some (.struct fs) ∧ ∀ w, (fs.mapM fun f => do pure (f.offset, ← sizeOf f.type) : Sem (Array (Nat × Nat))).run P w = .ok places.toArray w

theorem VRs.raws {F : Fz} {ν : Nu} {zs : List Value} (h : ∀ u ∈ zs, u.oneCell' = true) : VRs F ν zs (zs.map fun v => .c (.raw v)) :=
  VRs.of_get (by simp) fun k x v hx hv => by
    simp only [List.getElem?_map, hv, Option.map_some, Option.some.injEq] at hx
    subst hx
    exact VR.of_raw (h v (List.mem_of_getElem? hv))

theorem evals {F : Fz} {ν : Nu} {a : Act} : ∀ {xs : List Operand} {ps : List PV}, xs.length = ps.length → (∀ x ∈ xs.zip ps, VR F ν (a.eval x.1) x.2) → VRs F ν (xs.map a.eval) ps
  | [], [], _, _ => by simp [VRs]
  | x :: xs, p :: ps, hl, h => by
    simp only [List.map_cons, VRs]
    exact ⟨_, _, rfl, h (x, p) (by simp), evals (by simpa using hl) fun y hy => h y (by simp [hy])⟩

theorem zip_map_eval (a : Act) : ∀ (is : List Nat) (xs : List Operand), (is.zip xs).map (fun x => (x.1, a.eval x.2)) = is.zip (xs.map a.eval)
  | [], _ => by simp
  | _ :: _, [] => by simp
  | i :: is, x :: xs => by simp [zip_map_eval a is xs]

theorem OpT.build {t : TypeId} {is : List Nat} {xs : List Operand} {ps out : List PV} {zs : List Value} {places : List (Nat × Nat)} (ho : o.op = .build t (is.zip xs).toArray) (hb : BI P t zs places)
    (hl : is.length = ps.length) (hl2 : xs.length = ps.length) (hf : ps.all PV.flat = true) (hout : fillP (fun i => places[i]?) (zs.map fun v => .c (.raw v)) (is.zip ps) = some out) :
    OpT P o (xs.zip ps) [] (some (.agg out)) [] [] :=
  OpT.pure fun a w F ν M _ hi _ => by
    obtain ⟨i, z, hi1, hi2, hi3⟩ := hb.zero
    obtain ⟨fs, hd1, hd2⟩ := hb.desc
    have hone : ∀ u ∈ zs, u.oneCell' = true := by simpa using hb.one
    obtain ⟨us, e1, e2, e3⟩ := fill_sim (F := F) (ν := ν) (cells := zs.toArray) (by simpa using VRs.raws hone) (by simpa using hone) (evals hl2 hi) hf hl hout
    refine ⟨.agg us.toArray, ?_, by simp only [VR]; exact ⟨us, rfl, e2⟩⟩
    have hmap : ((is.zip xs).toArray.map fun x => (x.1, a.eval x.2)).toList = is.zip (xs.map a.eval) := by simp [zip_map_eval]
    have hpl : (fun i : Nat => places.toArray[i]?) = fun i : Nat => places[i]? := by funext i; simp
    simp only [execOp, ho, Instr.build, Sem.run_bind, zeroValue, typeInfo, hi1, hi2, hi3, run_program, Result.andThen_ok, Sem.run_pure, run_underlying hd1, hd2, hmap, hpl, e1]

def zeroL (zs : List Value) (n : Nat) : List Value := (List.range n).map fun i => zs.toArray[i % zs.toArray.size]!

/-- A slice literal. -/
theorem OpT.buildSlice {t e : TypeId} {len sz : Nat} {is : List Nat} {xs : List Operand} {ps : List PV} {zs : List Value} {i : TypeInfo} {z : Value} {rows : List (List FV)} {s : Nat}
    (ho : o.op = .buildSlice t len (is.zip xs).toArray) (ht : P.underlying t = some (.slice e)) (hi1 : P.info? e = some i) (hsz : i.size = sz) (hz0 : 0 < sz) (hi2 : i.zero = some z) (hi3 : z.cells = zs.toArray)
    (hone : (zeroL zs (len * sz)).all (·.oneCell') = true) (hsmall : len * sz ≤ 16777216) (hl : is.length = ps.length) (hl2 : xs.length = ps.length) (hf : ps.all PV.flat = true)
    (hout : fillP (fun i => some (i * sz, sz)) ((zeroL zs (len * sz)).map fun v => .c (.raw v)) (is.zip ps) = some (rows.flatten.map .c)) (hrl : rows.length = len) (hrow : rows.all (fun r => r.length == sz) = true) :
    OpT P o (xs.zip ps) [] (some (.osl s)) [(s, some (.arr wr e sz rows))] [s] := by
  intro a w F ν M hst hi _ hn hs K Q hK
  have hone' : ∀ u ∈ zeroL zs (len * sz), u.oneCell' = true := by simpa using hone
  obtain ⟨us, e1, e2, e3⟩ := fill_sim (F := F) (ν := ν) (cells := (zeroL zs (len * sz)).toArray) (by simpa using VRs.raws hone') (by simpa using hone') (evals hl2 hi) hf hl hout
  have hmap : ((is.zip xs).toArray.map fun x => (x.1, a.eval x.2)).toList = is.zip (xs.map a.eval) := by simp [zip_map_eval]
  have hrun : (execOp a.eval o).run P w = .ok (.value (.slice (some ⟨w.heap.size, 0, none⟩) len len)) (w.alloc (.cells us.toArray e)) := by
    have hrng : ∀ z0 : Array Value, (len * sz = 0 ∨ z0 = zs.toArray) → (Array.range (len * sz)).map (fun x => z0[x % z0.size]!) = (zeroL zs (len * sz)).toArray := by
      intro z0 hz
      by_cases h0 : len * sz = 0
      · rw [h0]; simp [zeroL]
      · rcases hz with hz | rfl
        · exact absurd hz h0
        · apply Array.ext'
          simp [zeroL, Array.toList_range]
    simp only [execOp, ho, Instr.buildSlice, Sem.run_bind, run_underlying ht, Result.andThen_ok, sizeOf, typeInfo, hi1, run_program, Sem.run_pure, hsz]
    rw [if_neg (by omega)]
    by_cases h0 : len * sz = 0
    · have hz := hrng #[] (.inl h0)
      simp only [h0, if_true] at hz e1 ⊢
      simp only [Sem.run_bind, Sem.run_pure, Result.andThen_ok, hz, hmap, e1, newRow, run_newObj, World.alloc]
    · have hz := hrng zs.toArray (.inr rfl)
      simp only [h0, if_false, zeroValue, typeInfo, Sem.run_bind, run_program, Result.andThen_ok, hi1, hi2, hi3, Sem.run_pure, hz, hmap, e1, newRow, run_newObj, World.alloc]
  unfold Oper.wp
  rw [hrun]
  simp only [Oper.upon]
  have hlen : us.length = rows.length * sz := by
    rw [e2.length, List.length_map, List.length_flatten]
    have : ∀ (l : List (List FV)), l.all (fun r => r.length == sz) = true → (l.map List.length).sum = l.length * sz := by
      intro l; induction l with
      | nil => simp
      | cons x l ih => intro h; simp only [List.all_cons, Bool.and_eq_true, beq_iff_eq] at h; simp [h.1, ih h.2, Nat.add_mul, Nat.add_comm]
    exact this rows hrow
  refine newBlock hst rfl rfl rfl rfl s (hn s (by simp)) (fun id e h => hs id e h s (by simp)) _ (.slice (some ⟨w.heap.size, 0, none⟩) len len) _ (fun b hb => by simp [blk] at hb; exact hb.symm) ?_ _ _ ?_ hK
  · refine ⟨hz0, us, ⟨hlen, .inr ⟨w.heap.size, len, us.toArray, by rw [hrl], Nat.zero_le _, heap_alloc_new w _, by omega, by have := Nat.le_mul_of_pos_right len hz0; unfold maxLen; omega, by simp [hlen, hrl], ?_⟩⟩, ⟨hlen, ?_, ?_⟩, fun b hb => ?_⟩
    · simp [← hlen]
    · intro k x hk
      have := List.all_eq_true.1 hrow x (List.mem_of_getElem? hk)
      simpa using this
    · intro k j x y hk hj
      have key : ∀ (l : List (List FV)) (k : Nat), l.all (fun r => r.length == sz) = true → l[k]? = some x → l.flatten[k * sz + j]? = some y := by
        intro l
        induction l with
        | nil => simp
        | cons r l ih =>
          intro k h hk
          simp only [List.all_cons, Bool.and_eq_true, beq_iff_eq] at h
          have hjl : j < x.length := by
            rcases Nat.lt_or_ge j x.length with h' | h'
            · exact h'
            · simp [List.getElem?_eq_none h'] at hj
          cases k with
          | zero => simp at hk; subst hk; simp [List.getElem?_append_left hjl, hj]
          | succ k =>
            have := ih k h.2 (by simpa using hk)
            rw [List.flatten_cons, List.getElem?_append_right (by rw [h.1, Nat.add_mul]; omega), h.1, show (k + 1) * sz + j - sz = k * sz + j by rw [Nat.add_mul]; omega]
            exact this
      have h1 := key rows k hrow hk
      obtain ⟨u, hu, hr⟩ := e2.get (k := k * sz + j) (x := .c y) (by rw [List.getElem?_map, h1]; rfl)
      exact ⟨u, hu, by simpa only [VR] using hr⟩
    · simp [blk] at hb; subst hb; exact fun o v hv => by rw [alloc_none hst o] at hv; cases hv
  · simp only [VR, upN_same, true_and]; rfl

def goneL : Option Nat → List (Nat × Option Ent)
  | some i => [(i, none)]
  | none => []

/-- A value of the call's own takes the place of another, or comes anew. -/
theorem St.move {F : Fz} {ν : Nu} {M : Mem} {w w' : World} (h : St F ν M w) (gone : Option Nat) (s : Nat) (v' : Value) (e : Ent) (hM : M s = none) (hs : ∀ id d, M id = some d → d.says s = false)
    (old : Option Nat) (hold : ∀ k, old = some k → ∃ i d, gone = some i ∧ M i = some d ∧ blk (ν i) = some k) (hk : ∀ k, k < w.heap.size → old ≠ some k → w'.heap[k]? = w.heap[k]?)
    (hb : ∀ b, blk v' = some b → old = some b ∨ w.heap.size ≤ b) (hF : ∀ k, old = some k → ∀ o v, F k o = some v → w'.cell? ⟨k, o, none⟩ = some v) (he : ER F (upN ν s v') w' v' e) :
    St F (upN ν s v') (updM M ((s, some e) :: goneL gone)) w' := by
  have get : ∀ i x, updM M ((s, some e) :: goneL gone) i = some x → i ≠ s → M i = some x ∧ gone ≠ some i := by
    intro i x hi hne
    simp only [updM, hne, if_false] at hi
    cases gone with
    | none => simpa [updM, goneL] using hi
    | some g =>
      simp only [updM, goneL] at hi
      by_cases hg : i = g
      · simp [hg] at hi
      · simp only [hg, if_false] at hi; exact ⟨hi, fun h => hg (by simpa using h.symm)⟩
  have nold : ∀ i x b, M i = some x → gone ≠ some i → blk (ν i) = some b → old ≠ some b := by
    intro i x b hi hg hbb ho
    obtain ⟨j, d, hj, hd, hdb⟩ := hold b ho
    exact hg (by rw [hj, h.dist i j x d b hi hd hbb hdb])
  refine ⟨fun b o v hf => ?_, fun i x hi => ?_, fun i j x y b hi hj hbi hbj => ?_⟩
  · have hc := h.fz b o v hf
    have hlt := World.block_lt_of_cell? w _ hc
    by_cases ho : old = some b
    · exact hF b ho o v hf
    rw [World.cell?_of_block (w := w) (a := ⟨b, o, none⟩) (hk b hlt ho)]
    exact hc
  · by_cases his : i = s
    · subst his; simp [updM] at hi; subst hi; simpa using he
    · obtain ⟨hMi, hg⟩ := get i x hi his
      rw [upN_other ν v' his]
      refine (h.ents i x hMi).mono (new := [s]) F.le_refl (fun j => ?_) (fun y hy => ?_) (fun b hbb => ?_)
      · by_cases hj : j = s
        · exact .inr (by simp [hj])
        · exact .inl (upN_other ν v' hj).symm
      · simp at hy; subst hy; exact hs i x hMi
      · exact ⟨hk b ((h.ents i x hMi).lt hbb) (nold i x b hMi hg hbb), fun _ => rfl⟩
  · by_cases his : i = s
    · by_cases hjs : j = s
      · rw [his, hjs]
      · obtain ⟨hMj, hg⟩ := get j y hj hjs
        rw [upN_other ν v' hjs] at hbj
        subst his; simp at hbi
        rcases hb b hbi with ho | ho
        · exact absurd ho (nold j y b hMj hg hbj)
        · have := (h.ents j y hMj).lt hbj; omega
    · obtain ⟨hMi, hg⟩ := get i x hi his
      rw [upN_other ν v' his] at hbi
      by_cases hjs : j = s
      · subst hjs; simp at hbj
        rcases hb b hbj with ho | ho
        · exact absurd ho (nold i x b hMi hg hbi)
        · have := (h.ents i x hMi).lt hbi; omega
      · obtain ⟨hMj, _⟩ := get j y hj hjs
        rw [upN_other ν v' hjs] at hbj
        exact h.dist i j x y b hMi hMj hbi hbj

theorem Ext.move {F : Fz} {ν : Nu} {M : Mem} {w w' : World} (gone : Option Nat) (s : Nat) (v' : Value) (e : Ent)
    (old : Option Nat) (hold : ∀ k, old = some k → ∃ i d, gone = some i ∧ M i = some d ∧ blk (ν i) = some k) (hk : ∀ k, k < w.heap.size → old ≠ some k → w'.heap[k]? = w.heap[k]?)
    (hb : ∀ b, blk v' = some b → old = some b ∨ w.heap.size ≤ b) (hsz : w.heap.size ≤ w'.heap.size) (hos : w'.os = w.os) (htp : w'.tape = w.tape) (hou : w'.output = w.output) :
    Ext F ν M w F (upN ν s v') (updM M ((s, some e) :: goneL gone)) w' := by
  refine ⟨hos, htp, hou, hsz, F.le_refl, fun b hlt hn => ⟨hk b hlt fun ho => ?_, fun _ => rfl⟩, fun i x b hi hbb => ?_⟩
  · obtain ⟨j, d, _, hd, hdb⟩ := hold b ho
    exact hn j d hd hdb
  · by_cases his : i = s
    · subst his; simp at hbb
      rcases hb b hbb with ho | ho
      · obtain ⟨j, d, _, hd, hdb⟩ := hold b ho
        exact .inl ⟨j, d, hd, hdb⟩
      · exact .inr ho
    · rw [upN_other ν v' his] at hbb
      refine .inl ⟨i, x, ?_, hbb⟩
      simp only [updM, his, if_false] at hi
      cases gone with
      | none => simpa [updM, goneL] using hi
      | some g =>
        simp only [updM, goneL] at hi
        by_cases hg : i = g
        · simp [hg] at hi
        · simpa [hg] using hi

/-- 'append' onto a row that is the call's own (or nil): what it gives, and what it writes. -/
theorem append_any {w : World} (t ty e : TypeId) (i : TypeInfo) (z : Value) (size : Nat) (ht : P.underlying t = some (.slice e)) (hi : P.info? e = some i) (hz : i.zero = some z)
    (hsize : i.size = size) (hzs : z.cells.size = size) (hsz : 0 < size) (v : Value) (n : Nat) (us : List Value) (hown : w.ownsRow 0 e size v n us)
    (x : Value) (m : Nat) (news : List Value) (hx : (x = .slice none 0 0 ∧ m = 0) ∨ ∃ ad c, x = .slice (some ad) m c ∧ ∀ (j : Nat) (u : Value), news[j]? = some u → w.cell? (ad.add j) = some u) (hl : news.length = m * size) (h1 : ∀ u ∈ news, u.oneCell' = true)
    (hbytes : (n + m) * i.bytes ≤ 140737488355328) (h63 : n + m ≤ maxLen) :
    ∃ v' w', (Builtin.append_ #[t, t] ty #[v, x]).run P w = .ok v' w' ∧ w'.ownsRow 0 e size v' (n + m) (us ++ news) ∧ w'.os = w.os ∧ w'.tape = w.tape ∧ w'.output = w.output ∧ w.heap.size ≤ w'.heap.size ∧
      (∀ k, k < w.heap.size → blk v ≠ some k ∨ blk v' ≠ some k → w'.heap[k]? = w.heap[k]?) ∧ ∀ b, blk v' = some b → blk v = some b ∨ w.heap.size ≤ b := by
  have hblk : blk v = v.ownBlock ∧ v.oneCell' = true := by
    rcases hown.2 with ⟨rfl, _⟩ | ⟨g, cap, cur, rfl, _⟩ <;> exact ⟨rfl, rfl⟩
  rcases hx with ⟨rfl, rfl⟩ | ⟨ad, c, rfl, hnews⟩
  · have hnil : news = [] := List.eq_nil_of_length_eq_zero (by simpa using hl)
    subst hnil
    have hrun := run_append_owned_none (P := P) (w := w) 0 t ty e i size ht hi v n us hown
    exact ⟨v, w, hrun, by simpa using hown, rfl, rfl, rfl, Nat.le_refl _, fun _ _ _ => rfl, fun b hb => .inl hb⟩
  · by_cases hnil : v = .slice none 0 0 ∧ n = 0
    · obtain ⟨rfl, rfl⟩ := hnil
      have hus : us = [] := List.eq_nil_of_length_eq_zero (by simpa using hown.1)
      subst hus
      obtain ⟨v', w', h2, h3, h4, _⟩ := run_append_own (P := P) w w.heap.size t ty e i z size i.bytes ht hi hz hsize rfl hzs hsz _ 0 [] (World.ownsRow_nil w _ e size) ad m c news hl hnews h1 h63 hbytes (Nat.le_refl _)
      refine ⟨v', w', h2, ⟨h3.1, ?_⟩, h4.os, h4.tape, h4.output, h4.size, fun k hk _ => h4.block k hk (by simp [Value.ownBlock]), fun b hb => .inr ?_⟩
      · rcases h3.2 with h | ⟨g, cap, cur, e1, e2, e3⟩
        · exact .inl h
        · exact .inr ⟨g, cap, cur, e1, Nat.zero_le _, e3⟩
      · rcases h3.2 with ⟨h, _⟩ | ⟨g, cap, cur, e1, e2, e3⟩
        · rw [h] at hb; simp [blk] at hb
        · rw [e1] at hb; simp [blk] at hb; omega
    · rcases hown.2 with h | ⟨g, cap, cur, rfl, _, hg, hnc, hcm, hcs, htake⟩
      · exact absurd h hnil
      · subst hsize
        by_cases hroom : n + m ≤ cap
        · have hfit : n * i.size + news.length ≤ cur.size := by rw [hl, hcs, ← Nat.add_mul]; exact Nat.mul_le_mul_right _ hroom
          have hr := run_append_room (P := P) w t ty e i ht hi g n cap cur hg ad m c news hl hnews h1 hroom hfit
          have hlen : (us ++ news).length = (n + m) * i.size := by rw [List.length_append, hown.1, hl, Nat.add_mul]
          refine ⟨_, _, hr, ⟨hlen, .inr ⟨g, cap, _, rfl, Nat.zero_le _, setRow_heap w g cur _ e _ hg, hroom, hcm, ?_, ?_⟩⟩, rfl, rfl, rfl, by simp, fun k _ hk => setRow_other w g k _ (fun e => by rcases hk with hk | hk <;> exact hk (by simp [blk, e])), fun b hb => .inl hb⟩
          · simp only [List.size_toArray, List.length_append, List.length_take, List.length_drop, Array.length_toList]
            omega
          · rw [htake, ← hlen]
            exact List.take_left
        · have holds : ∀ j u, us[j]? = some u → w.cell? ((⟨g, 0, none⟩ : Addr).add j) = some u := hown.cells (g := g) rfl
          have h63' : n + m ≤ 9223372036854775807 := by simpa only [maxLen] using h63
          have hr := run_append_grow (P := P) w t ty e i z ht hi hz ⟨g, 0, none⟩ n cap us hown.1 holds ad m c news hl hnews (by omega) (by omega) (growslice_fits (by omega) hbytes)
          have hge := grownCap_ge w (n + m) cap e
          have hcm' : grownCap w (n + m) cap e ≤ maxLen := grownCap_le_maxLen w (n + m) cap e h63
          refine ⟨_, _, hr, ⟨by rw [List.length_append, hown.1, hl, Nat.add_mul], .inr ⟨w.heap.size, _, _, rfl, Nat.zero_le _, heap_alloc_new w.drew _, hge, hcm', ?_, ?_⟩⟩, rfl, rfl, rfl, by simp, fun k hk _ => heap_alloc_old w.drew _ k hk, fun b hb => .inr (by simp [blk] at hb; omega)⟩
          · simp only [Array.size_append, List.size_toArray, size_zeroCells, hzs, hown.1, hl, ← Nat.add_mul]
            congr 1
            omega
          · simp only [Array.toList_append, List.append_assoc]
            have hlen : (us ++ news).length = (n + m) * i.size := by rw [List.length_append, hown.1, hl, Nat.add_mul]
            rw [← List.append_assoc, ← hlen]
            exact List.take_left

/-- What 'append' reads from its second operand. -/
theorem srcF {F : Fz} {ν : Nu} {M : Mem} {w : World} (hst : St F ν M w) {x : Value} {ys : List (List FV)} {sz : Nat} (h : FR F x (.sl ys)) (hsz : ys.all (fun r => r.length == sz) = true) :
    ∃ news : List Value, ((x = .slice none 0 0 ∧ ys.length = 0) ∨ ∃ ad c, x = .slice (some ad) ys.length c ∧ ∀ (j : Nat) (u : Value), news[j]? = some u → w.cell? (ad.add j) = some u) ∧ Rws F sz ys news ∧ ∀ u ∈ news, u.oneCell' = true := by
  simp only [FR] at h
  obtain ⟨a, c, rfl, hc, _, h0, hr⟩ := h
  rcases hr with rfl | ⟨b, o, sz', rfl, hr⟩
  · cases a with
    | none => exact ⟨[], .inl ⟨by rw [h0 rfl]; rfl, rfl⟩, ⟨by simp, by simp, by simp⟩, by simp⟩
    | some ad => exact ⟨[], .inr ⟨ad, c, rfl, by simp⟩, ⟨by simp, by simp, by simp⟩, by simp⟩
  · have key : ∀ (ys : List (List FV)) (o : Nat), FRrows F b o sz' ys → ys.all (fun r => r.length == sz) = true →
        ∃ news : List Value, (∀ (j : Nat) (u : Value), news[j]? = some u → F b (o + j) = some u) ∧ Rws F sz ys news ∧ ∀ u ∈ news, u.oneCell' = true := by
      intro ys
      induction ys with
      | nil => intro o _ _; exact ⟨[], by simp, ⟨by simp, by simp, by simp⟩, by simp⟩
      | cons y ys ih =>
        intro o hr hall
        simp only [FRrows] at hr
        simp only [List.all_cons, Bool.and_eq_true, beq_iff_eq] at hall
        have he : sz' = sz := by rw [← hr.1, hall.1]
        subst he
        obtain ⟨us, e1, e2, e3⟩ := VRs.of_cells (ν := ν) hr.2.1
        obtain ⟨news, f1, f2, f3⟩ := ih (o + sz') hr.2.2 hall.2
        refine ⟨us ++ news, fun j u hj => ?_, ⟨?_, ?_, ?_⟩, ?_⟩
        · by_cases hjl : j < us.length
          · rw [List.getElem?_append_left hjl] at hj; exact e2 j u hj
          · rw [List.getElem?_append_right (by omega)] at hj
            have := f1 _ u hj
            rwa [show o + sz' + (j - us.length) = o + j by omega] at this
        · simp [f2.1, e1, hall.1, Nat.add_mul, Nat.add_comm]
        · intro k x hk
          cases k with
          | zero => simp at hk; subst hk; exact hall.1
          | succ k => exact f2.2.1 k x (by simpa using hk)
        · intro k j x y' hk hj
          cases k with
          | zero =>
            simp at hk; subst hk
            obtain ⟨u, hu, hr'⟩ := e3.get (k := j) (x := .c y') (by simp [hj])
            have hjl : j < us.length := by
              rcases Nat.lt_or_ge j us.length with h' | h'
              · exact h'
              · simp [List.getElem?_eq_none h'] at hu
            exact ⟨u, by simp [List.getElem?_append_left hjl, hu], by simpa only [VR] using hr'⟩
          | succ k =>
            obtain ⟨u, hu, hr'⟩ := f2.2.2 k j x y' (by simpa using hk) hj
            refine ⟨u, ?_, hr'⟩
            rw [List.getElem?_append_right (by rw [e1, hall.1, Nat.add_mul]; omega), e1, hall.1, show (k + 1) * sz' + j - sz' = k * sz' + j by rw [Nat.add_mul]; omega]
            exact hu
        · intro u hu
          rcases List.mem_append.1 hu with hu | hu
          · obtain ⟨j, hj⟩ := List.getElem?_of_mem hu
            have hlt : j < us.length := by
              rcases Nat.lt_or_ge j us.length with h' | h'
              · exact h'
              · simp [List.getElem?_eq_none h'] at hj
            have hj2 : j < y.length := by omega
            obtain ⟨u', hu', hr'⟩ := e3.get (k := j) (x := .c y[j]) (by simp [hj2])
            rw [hj] at hu'; simp at hu'; subst hu'
            exact hr'.one rfl
          · exact f3 u hu
    obtain ⟨news, e1, e2, e3⟩ := key ys o hr hsz
    exact ⟨news, .inr ⟨_, c, rfl, fun j u hj => by rw [add_flat]; exact hst.fz _ _ _ (e1 j u hj)⟩, e2, e3⟩
end
end Go.Ab
