/- A region that draws its order: it comes to what the text's order comes to. Conditions: none. -/
import Derived.Test.YtiojahpkaogigaaGreatDoorAb8
namespace Go.Ab

/-- What an operation of a region looks at and what it leaves. -/
structure Info where
  rd : List Nat
  mks : List Nat
  dst : Option Nat
  pv : Option PV
  upd : MemL
  new : List Nat

def insT : List (Operand × PV) → List Nat
  | [] => []
  | (.tmp t, _) :: l => t :: insT l
  | _ :: l => insT l
def guardT (ops : Array Oper) (o : Oper) : List Nat :=
  match o.guard with
  | none => []
  | some (j, _) => ((ops[j]?).bind (·.dst)).toList

/-- A region's operations in the text's order. -/
inductive Run (C : Cx) (ops : Array Oper) : List Oper → Regs → MemL → List Info → Regs → MemL → Prop
  | nil {r : Regs} {m : MemL} : Run C ops [] r m [] r m
  | run {o : Oper} {l : List Oper} {r r' : Regs} {m m' : MemL} {is : List Info} {ins : List (Operand × PV)} {mem : List (Nat × Ent)} {pv : Option PV} {upd : MemL} {new : List Nat} (hT : OpTG C.P C.Γ o ins mem pv upd new) (hw : wants ops r o true) (hin : InsOK C.Γ r ins) (hm : MemOK m mem)
      (hf : fresh C.M m r new = true) (hd : dstOK C o.dst = true) (h : Run C ops l (setR r o.dst pv) (upd ++ m) is r' m') : Run C ops (o :: l) r m (⟨insT ins ++ guardT ops o, mem.map (·.1), o.dst, pv, upd, new⟩ :: is) r' m'
  | skip {o : Oper} {l : List Oper} {r r' : Regs} {m m' : MemL} {is : List Info} (hw : wants ops r o false) (hd : dstOK C o.dst = true) (h : Run C ops l (setR r o.dst (some (.tup []))) m is r' m') : Run C ops (o :: l) r m (⟨guardT ops o, [], o.dst, some (.tup []), [], []⟩ :: is) r' m'

/-- What has been done: of the operations, those in a set, in the text's order. -/
def doneR (E : Nat → Bool) : Nat → List Info → Regs → Regs
  | _, [], r => r
  | k, i :: is, r => doneR E (k + 1) is (if E k then setR r i.dst i.pv else r)
def doneM (E : Nat → Bool) : Nat → List Info → MemL → MemL
  | _, [], m => m
  | k, i :: is, m => doneM E (k + 1) is (if E k then i.upd ++ m else m)

theorem doneR_congr {t : Nat} : ∀ {is : List Info} {k : Nat} {E E' : Nat → Bool} {r r' : Regs}, (∀ j i, is[j]? = some i → i.dst = some t → E (k + j) = E' (k + j)) → lookR r t = lookR r' t → lookR (doneR E k is r) t = lookR (doneR E' k is r') t
  | [], k, E, E', r, r', _, h => by simpa [doneR] using h
  | i :: is, k, E, E', r, r', hE, h => by
    simp only [doneR]
    refine doneR_congr (fun j x hj hx => ?_) ?_
    · have := hE (j + 1) x (by simpa using hj) hx
      rwa [show k + 1 + j = k + (j + 1) by omega]
    · by_cases hd : i.dst = some t
      · have := hE 0 i (by simp) hd
        simp only [Nat.add_zero] at this
        rw [← this]
        cases hk : E k with
        | true => simp [setR, hd, lookR]
        | false => simpa using h
      · have key : ∀ (b : Bool) (r : Regs), lookR (if b then setR r i.dst i.pv else r) t = lookR r t := by
          intro b r
          cases b with
          | false => rfl
          | true =>
            cases hd' : i.dst with
            | none => simp [setR]
            | some d =>
              simp only [if_true, setR, lookR]
              rw [if_neg (by rintro rfl; exact hd hd')]
        rw [key, key, h]

theorem look_app {u m : MemL} {id : Nat} : look (u ++ m) id = if u.any (fun x => x.1 == id) then look u id else look m id := by
  rw [look_append]
  rcases updM_get (look m) (m := u) (i := id) with ⟨h, x, hx, hxi⟩ | ⟨h, hn⟩
  · rw [h, if_pos]
    simp only [List.any_eq_true, beq_iff_eq]; exact ⟨x, hx, hxi⟩
  · rw [h, if_neg]
    simp only [List.any_eq_true, beq_iff_eq, not_exists, not_and]; exact hn

theorem doneM_congr {id : Nat} : ∀ {is : List Info} {k : Nat} {E E' : Nat → Bool} {m m' : MemL}, (∀ j i, is[j]? = some i → i.upd.any (fun x => x.1 == id) = true → E (k + j) = E' (k + j)) → look m id = look m' id → look (doneM E k is m) id = look (doneM E' k is m') id
  | [], k, E, E', m, m', _, h => by simpa [doneM] using h
  | i :: is, k, E, E', m, m', hE, h => by
    simp only [doneM]
    refine doneM_congr (fun j x hj hx => ?_) ?_
    · have := hE (j + 1) x (by simpa using hj) hx
      rwa [show k + 1 + j = k + (j + 1) by omega]
    · by_cases hd : i.upd.any (fun x => x.1 == id) = true
      · have := hE 0 i (by simp) hd
        simp only [Nat.add_zero] at this
        rw [← this]
        cases hk : E k with
        | true => simp only [if_true]; rw [look_app, look_app, if_pos hd, if_pos hd]
        | false => simpa using h
      · have key : ∀ (b : Bool) (m : MemL), look (if b then i.upd ++ m else m) id = look m id := by
          intro b m
          cases b with
          | false => rfl
          | true => simp only [if_true]; rw [look_app, if_neg hd]
        rw [key, key, h]

/-- Does what an operation leaves speak of a block? -/
def Info.says (s : Nat) (i : Info) : Bool :=
  (match i.pv with | some p => p.says s | none => false) || i.upd.any fun x => x.1 == s || (match x.2 with | some e => e.says s | none => false)

theorem doneR_says {s : Nat} : ∀ {is : List Info} {k : Nat} {E : Nat → Bool} {r : Regs}, (∀ t p, lookR r t = some p → p.says s = false) → (∀ j i, is[j]? = some i → E (k + j) = true → i.says s = false) → ∀ t p, lookR (doneR E k is r) t = some p → p.says s = false
  | [], k, E, r, h, _, t, p, hp => h t p hp
  | i :: is, k, E, r, h, hi, t, p, hp => by
    simp only [doneR] at hp
    refine doneR_says (fun t p hp => ?_) (fun j x hj hx => hi (j + 1) x (by simpa using hj) (by rwa [show k + (j + 1) = k + 1 + j by omega])) t p hp
    cases hk : E k with
    | false => rw [hk] at hp; exact h t p hp
    | true =>
      rw [hk] at hp
      simp only [if_true] at hp
      cases hd : i.dst with
      | none => rw [hd] at hp; exact h t p hp
      | some d =>
        rw [hd] at hp
        simp only [setR, lookR] at hp
        split at hp
        · have := hi 0 i (by simp) (by simpa using hk)
          simp only [Info.says, hp, Bool.or_eq_false_iff] at this
          exact this.1
        · exact h t p hp
theorem doneM_says {s : Nat} : ∀ {is : List Info} {k : Nat} {E : Nat → Bool} {m : MemL}, (look m s = none ∧ ∀ i e, look m i = some e → e.says s = false) → (∀ j i, is[j]? = some i → E (k + j) = true → i.says s = false) →
    look (doneM E k is m) s = none ∧ ∀ i e, look (doneM E k is m) i = some e → e.says s = false
  | [], k, E, m, h, _ => h
  | i :: is, k, E, m, h, hi => by
    simp only [doneM]
    refine doneM_says ?_ (fun j x hj hx => hi (j + 1) x (by simpa using hj) (by rwa [show k + (j + 1) = k + 1 + j by omega]))
    cases hk : E k with
    | false => exact h
    | true =>
      have hs := hi 0 i (by simp) (by simpa using hk)
      simp only [Info.says, Bool.or_eq_false_iff, List.any_eq_false] at hs
      simp only [if_true]
      refine ⟨?_, fun j e he => ?_⟩
      · rw [look_app, if_neg]
        · exact h.1
        · simp only [List.any_eq_true, beq_iff_eq, not_exists, not_and]
          intro x hx hxs
          have := hs.2 x hx
          simp [hxs] at this
      · rw [look_app] at he
        split at he
        · have key : ∀ {u : MemL} {j : Nat} {e : Ent}, look u j = some e → ∃ x ∈ u, x.2 = some e := by
            intro u
            induction u with
            | nil => intro j e h; simp [look, updM] at h
            | cons y u ih =>
              intro j e h
              obtain ⟨a, b⟩ := y
              simp only [look, updM] at h
              split at h
              · exact ⟨(a, b), by simp, h⟩
              · obtain ⟨x, hx, hxe⟩ := ih h; exact ⟨x, by simp [hx], hxe⟩
          obtain ⟨x, hx, hxe⟩ := key he
          have := hs.2 x hx
          simp only [hxe, Bool.or_eq_true, not_or, Bool.not_eq_true] at this
          exact this.2
        · exact h.2 j e he

/-- Two operations, the first ahead in the text, whose order counts. -/
def Info.meets (a b : Info) : Bool :=
  (match a.dst with | some d => b.rd.contains d || b.dst == some d | none => false) || (match b.dst with | some d => a.rd.contains d | none => false) ||
  a.upd.any (fun x => b.mks.contains x.1 || b.upd.any (fun y => y.1 == x.1)) || b.upd.any (fun x => a.mks.contains x.1)

/-- The check on a region that draws: 'T' tells for each operation some that must have been done before it. -/
def okT (ops : List Oper) (T : List (List Nat)) : Bool :=
  (List.range ops.length).all fun k => (T.getD k []).all fun j => match ops[k]? with
    | some o => o.after.any fun e => Region.binds .any e && (e.on == j || (decide (e.on < k) && (T.getD e.on []).contains j))
    | none => false
def okOn (ops : List Oper) : Bool :=
  (List.range ops.length).all fun k => match ops[k]? with
    | some o => o.after.all fun e => !Region.binds .any e || decide (e.on < k)
    | none => false
def okPairs (is : List Info) (T : List (List Nat)) : Bool :=
  (List.range is.length).all fun k => (List.range is.length).all fun j => match is[k]?, is[j]? with
    | some a, some b => (!(decide (j < k) && b.meets a) || (T.getD k []).contains j) && (j == k || !(a.new.any fun s => b.says s) || (T.getD j []).contains k)
    | _, _ => true
def okNew (C : MemL) (m : MemL) (r : Regs) (is : List Info) : Bool := is.all fun i => fresh C m r i.new

theorem Inv.step' {C : Cx} {r : Regs} {m : MemL} {a : Act} {w : World} {F : Fz} {ν : Nu} (h : Inv C r m a w F ν) {d : Option Tmp} {pv : Option PV} {upd : MemL} {new : List Nat}
    (hf : ∀ s ∈ new, look C.M s = none ∧ look m s = none ∧ (∀ i e, look m i = some e → e.says s = false) ∧ ∀ t p, lookR r t = some p → p.says s = false) (hd : dstOK C d = true)
    {v : Value} {w' : World} {F' : Fz} {ν' : Nu} (hv : ∀ p, pv = some p → VR F' ν' v p) (hst : St F' ν' (updM (look m) upd) w') (hext : Ext F ν (look m) w F' ν' (updM (look m) upd) w') (hν : ∀ id, id ∉ new → ν' id = ν id) :
    Inv C (setR r d pv) (upd ++ m) (a.put d v) w' F' ν' := by
  have hd' : ∀ k, d = some k → k < a.tmps.size := by
    intro k hk; subst hk; simp only [dstOK, decide_eq_true_eq] at hd; rw [h.size]; exact hd
  refine ⟨by rw [look_append]; exact hst, fun t p ht => ?_, ?_, ?_, by rw [look_append]; exact h.ext.trans hext, fun id hid => ?_, h.gok.mono hext.mono⟩
  · have old : lookR r t = some p → VR F' ν' (a.tmps.getD t undef) p := fun hr =>
      (h.regs t p hr).mono (new := new) hext.mono (fun s => by
        by_cases hs : s ∈ new
        · exact .inr hs
        · exact .inl (hν s hs).symm) (fun s hs => (hf s hs).2.2.2 t p hr)
    rw [getD_put hd']
    cases d with
    | none => simpa using old ht
    | some k =>
      simp only [setR, lookR] at ht
      by_cases hk : t = k
      · subst hk; simp only [if_true] at ht ⊢; exact hv p ht
      · rw [if_neg hk] at ht
        rw [if_neg (by simpa using fun h => hk h.symm)]
        exact old ht
  · cases d <;> simp [Act.put, h.size]
  · cases d <;> simp [Act.put, h.defers]
  · rw [hν id fun hm => hid (hf id hm).1]; exact h.same id hid

/-- One operation of the region, at the state of the text's order ahead of it. -/
def Stp (C : Cx) (ops : Array Oper) (o : Oper) (i : Info) (r : Regs) (m : MemL) : Prop :=
  (∃ ins mem, OpTG C.P C.Γ o ins mem i.pv i.upd i.new ∧ wants ops r o true ∧ InsOK C.Γ r ins ∧ MemOK m mem ∧ dstOK C o.dst = true ∧ i.dst = o.dst ∧ i.rd = insT ins ++ guardT ops o ∧ i.mks = mem.map (·.1)) ∨
  (wants ops r o false ∧ dstOK C o.dst = true ∧ i.dst = o.dst ∧ i.rd = guardT ops o ∧ i.pv = some (.tup []) ∧ i.upd = [])

theorem Run.stp {C : Cx} {ops : Array Oper} {l : List Oper} {r r' : Regs} {m m' : MemL} {is : List Info} (h : Run C ops l r m is r' m') :
    is.length = l.length ∧ (r' = doneR (fun _ => true) 0 is r ∧ m' = doneM (fun _ => true) 0 is m) ∧ ∀ k o i, l[k]? = some o → is[k]? = some i → Stp C ops o i (doneR (fun j => decide (j < k)) 0 is r) (doneM (fun j => decide (j < k)) 0 is m) := by
  have shR : ∀ (is : List Info) (k c : Nat) (r : Regs), doneR (fun j => decide (j < c + 1)) (k + 1) is r = doneR (fun j => decide (j < c)) k is r := by
    intro is
    induction is with
    | nil => intro k c r; rfl
    | cons i is ih => intro k c r; simp only [doneR]; rw [ih]; congr 1; simp
  have shM : ∀ (is : List Info) (k c : Nat) (m : MemL), doneM (fun j => decide (j < c + 1)) (k + 1) is m = doneM (fun j => decide (j < c)) k is m := by
    intro is
    induction is with
    | nil => intro k c r; rfl
    | cons i is ih => intro k c r; simp only [doneM]; rw [ih]; congr 1; simp
  have tR : ∀ (is : List Info) (k : Nat) (r : Regs), doneR (fun _ => true) (k + 1) is r = doneR (fun _ => true) k is r := by
    intro is
    induction is with
    | nil => intro k r; rfl
    | cons i is ih => intro k r; simp only [doneR]; rw [ih]
  have tM : ∀ (is : List Info) (k : Nat) (m : MemL), doneM (fun _ => true) (k + 1) is m = doneM (fun _ => true) k is m := by
    intro is
    induction is with
    | nil => intro k r; rfl
    | cons i is ih => intro k r; simp only [doneM]; rw [ih]
  have zR : ∀ (is : List Info) (k : Nat) (r : Regs), doneR (fun j => decide (j < 0)) k is r = r := by
    intro is
    induction is with
    | nil => intro k r; rfl
    | cons i is ih => intro k r; simp only [doneR]; rw [ih]; simp
  have zM : ∀ (is : List Info) (k : Nat) (m : MemL), doneM (fun j => decide (j < 0)) k is m = m := by
    intro is
    induction is with
    | nil => intro k r; rfl
    | cons i is ih => intro k r; simp only [doneM]; rw [ih]; simp
  induction h with
  | nil => exact ⟨rfl, ⟨rfl, rfl⟩, fun k o i h => by simp at h⟩
  | run hT hw hin hm hf hd h ih =>
    refine ⟨by simp [ih.1], ⟨?_, ?_⟩, fun k o' i' hk hi => ?_⟩
    · simp only [doneR, if_true]; rw [tR]; exact ih.2.1.1
    · simp only [doneM, if_true]; rw [tM]; exact ih.2.1.2
    · cases k with
      | zero =>
        simp at hk hi; subst hk; subst hi
        rw [zR, zM]
        exact .inl ⟨_, _, hT, hw, hin, hm, hd, rfl, rfl, rfl⟩
      | succ k =>
        have := ih.2.2 k o' i' (by simpa using hk) (by simpa using hi)
        simp only [doneR, doneM, Nat.zero_lt_succ, decide_true, if_true]
        rw [shR, shM]
        exact this
  | skip hw hd h ih =>
    refine ⟨by simp [ih.1], ⟨?_, ?_⟩, fun k o' i' hk hi => ?_⟩
    · simp only [doneR, if_true]; rw [tR]; exact ih.2.1.1
    · simp only [doneM, if_true, List.nil_append]; rw [tM]; exact ih.2.1.2
    · cases k with
      | zero =>
        simp at hk hi; subst hk; subst hi
        rw [zR, zM]
        exact .inr ⟨hw, hd, rfl, rfl, rfl, rfl⟩
      | succ k =>
        have := ih.2.2 k o' i' (by simpa using hk) (by simpa using hi)
        simp only [doneR, doneM, Nat.zero_lt_succ, decide_true, if_true, List.nil_append]
        rw [shR, shM]
        exact this

theorem insT_mem : ∀ {ins : List (Operand × PV)} {t : Nat} {p : PV}, (Operand.tmp t, p) ∈ ins → t ∈ insT ins
  | [], _, _, h => by simp at h
  | (x, q) :: l, t, p, h => by
    rcases List.mem_cons.1 h with h | h
    · cases h; simp [insT]
    · have := insT_mem h
      cases x <;> simp [insT, this]

theorem InsOK.move {Γ : Gl} {r r' : Regs} : ∀ {ins : List (Operand × PV)}, (∀ t ∈ insT ins, lookR r' t = lookR r t) → InsOK Γ r ins → InsOK Γ r' ins
  | [], _, _ => trivial
  | (x, p) :: l, h, ho => by
    refine ⟨?_, InsOK.move (fun t ht => h t (by cases x <;> simp [insT, ht])) ho.2⟩
    obtain ⟨q, hq, hl⟩ := ho.1
    refine ⟨q, ?_, hl⟩
    cases x with
    | tmp t => simp only [opP] at hq ⊢; rw [h t (by simp [insT])]; exact hq
    | const v => exact hq
    | global g => exact hq
    | func f => exact hq
theorem MemOK.move {m m' : MemL} : ∀ {mem : List (Nat × Ent)}, (∀ i ∈ mem.map (·.1), look m' i = look m i) → MemOK m mem → MemOK m' mem
  | [], _, _ => trivial
  | (i, e) :: l, h, ho => ⟨by rw [h i (by simp)]; exact ho.1, MemOK.move (fun j hj => h j (by simp at hj ⊢; exact .inr hj)) ho.2⟩
theorem wants.move {ops : Array Oper} {r r' : Regs} {o : Oper} {b : Bool} (h : ∀ t ∈ guardT ops o, lookR r' t = lookR r t) (hw : wants ops r o b) : wants ops r' o b := by
  unfold wants at hw ⊢
  unfold guardT at h
  cases hg : o.guard with
  | none => simpa only [hg] using hw
  | some x =>
    obtain ⟨j, want⟩ := x
    simp only [hg] at hw h ⊢
    obtain ⟨d, g, h1, h2, h3⟩ := hw
    exact ⟨d, g, h1, by rw [h d (by simp [h1])]; exact h2, h3⟩

theorem count_out (k : Nat) (p q : Nat → Bool) (hq : ∀ j, j ≠ k → q j = p j) (hk : q k = false) (hp : p k = true) : ∀ n, (List.range n).countP q + (if k < n then 1 else 0) = (List.range n).countP p
  | 0 => by simp
  | n + 1 => by
    have ih := count_out k p q hq hk hp n
    rw [List.range_succ, List.countP_append, List.countP_append, ← ih]
    by_cases h : n = k
    · subst h; simp [hk, hp]
    · have : q n = p n := hq n h
      simp only [List.countP_singleton, this]
      by_cases hlt : k < n
      · have h1 : k < n + 1 := by omega
        simp only [hlt, h1, if_true]; omega
      · have h1 : ¬ k < n + 1 := by omega
        simp only [hlt, h1, if_false]; omega

theorem ready_get {l : List Oper} {listed : Array Bool} {k : Nat} (hs : listed.size = l.length) (h : k ∈ Region.ready .any l.toArray listed) :
    k < l.length ∧ listed.getD k false = false ∧ ∀ o, l[k]? = some o → ∀ e ∈ o.after, Region.binds .any e = true → listed.getD e.on false = true := by
  simp only [Region.ready, List.mem_filter, List.mem_range, List.size_toArray, Bool.and_eq_true, Bool.not_eq_true'] at h
  obtain ⟨h1, h2, h3⟩ := h
  refine ⟨h1, ?_, fun o ho e he hb => ?_⟩
  · rw [Array.getD_eq_getD_getElem?] at h2 ⊢
    have : k < listed.size := by omega
    simpa [this] using h2
  · rw [List.getElem?_toArray, ho] at h3
    simp only [Option.map_some, Option.getD_some, Array.all_eq_true', Bool.or_eq_true, Bool.not_eq_true'] at h3
    rcases h3 e he with h | h
    · rw [hb] at h; cases h
    · exact h

theorem ACode.draw {C : Cx} {id : Nat} {l : List Oper} {r r' : Regs} {m m' : MemL} {is : List Info} {Q : Post} (T : List (List Nat)) (hmix : C.P.follows .mixedOrders = true) (h : Run C l.toArray l r m is r' m') (hT : okT l T = true) (hO : okOn l = true) (hP : okPairs is T = true)
    (hN : okNew C.M m r is = true) (hQ : AOps C l.toArray [] r' m' Q) : ACode C (.region id l.toArray true) r m Q := by
  obtain ⟨hlen, ⟨hr', hm'⟩, hstp⟩ := h.stp
  -- sets of operations that hold with each what must come before it
  let clo (E : Nat → Bool) : Prop := ∀ k o, l[k]? = some o → E k = true → ∀ e ∈ o.after, Region.binds .any e = true → E e.on = true
  have tcl : ∀ (E : Nat → Bool), clo E → ∀ k o, l[k]? = some o → (∀ e ∈ o.after, Region.binds .any e = true → E e.on = true) → ∀ j ∈ T.getD k [], E j = true := by
    intro E hE k
    induction k using Nat.strongRecOn with
    | _ k ih =>
      intro o ho hpre j hj
      have hk : k < l.length := by
        rcases Nat.lt_or_ge k l.length with h' | h'
        · exact h'
        · simp [List.getElem?_eq_none h'] at ho
      have h1 := List.all_eq_true.1 hT k (by simpa using hk)
      have h2 := List.all_eq_true.1 h1 j hj
      simp only [ho, Array.any_eq_true', Bool.and_eq_true, Bool.or_eq_true, beq_iff_eq, decide_eq_true_eq] at h2
      obtain ⟨e, he, hb, h3⟩ := h2
      have hEe := hpre e he hb
      rcases h3 with rfl | ⟨hlt, hc⟩
      · exact hEe
      · have hle : e.on < l.length := by omega
        exact ih e.on hlt l[e.on] (by simp [hle]) (hE e.on _ (by simp [hle]) hEe) j (by simpa using hc)
  have pairs : ∀ j k b a, is[j]? = some b → is[k]? = some a → (j < k → b.meets a = true → j ∈ T.getD k []) ∧ (j ≠ k → ∀ s ∈ a.new, b.says s = true → k ∈ T.getD j []) := by
    intro j k b a hb ha
    have hj : j < is.length := by
      rcases Nat.lt_or_ge j is.length with h' | h'
      · exact h'
      · simp [List.getElem?_eq_none h'] at hb
    have hk : k < is.length := by
      rcases Nat.lt_or_ge k is.length with h' | h'
      · exact h'
      · simp [List.getElem?_eq_none h'] at ha
    have h1 := List.all_eq_true.1 (List.all_eq_true.1 hP k (by simpa using hk)) j (by simpa using hj)
    simp only [ha, hb, Bool.and_eq_true, Bool.or_eq_true, Bool.not_eq_true', Bool.and_eq_false_iff, decide_eq_false_iff_not, beq_iff_eq, List.contains_iff_mem, List.any_eq_false] at h1
    refine ⟨fun hlt hm => ?_, fun hne s hs hsay => ?_⟩
    · rcases h1.1 with (h | h) | h
      · exact absurd hlt h
      · rw [hm] at h; cases h
      · exact h
    · rcases h1.2 with (h | h) | h
      · exact absurd h hne
      · exact absurd hsay (h s hs)
      · exact h
  have fin : ∀ {a : Act} {w : World} {F : Fz} {ν : Nu} (listed : Array Bool), (∀ j, j < l.length → listed.getD j false = true) → Inv C (doneR (fun j => listed.getD j false) 0 is r) (doneM (fun j => listed.getD j false) 0 is m) a w F ν → (Q.lift C) .normal a w := by
    intro a w F ν listed hall hi
    refine hQ a w F ν (hi.sub ⟨fun t p hp => ⟨p, ?_, Le.same⟩, fun id e he => ⟨e, ?_, LeE.same⟩⟩)
    · rw [← hp, hr']
      exact doneR_congr (fun j i hj _ => by
        have : j < is.length := by
          rcases Nat.lt_or_ge j is.length with h' | h'
          · exact h'
          · simp [List.getElem?_eq_none h'] at hj
        simp only [Nat.zero_add]; exact hall j (by omega)) rfl
    · rw [← he, hm']
      exact doneM_congr (fun j i hj _ => by
        have : j < is.length := by
          rcases Nat.lt_or_ge j is.length with h' | h'
          · exact h'
          · simp [List.getElem?_eq_none h'] at hj
        simp only [Nat.zero_add]; exact hall j (by omega)) rfl
  have key : ∀ (fuel : Nat) (listed : Array Bool) (a : Act) (w : World) (F : Fz) (ν : Nu), listed.size = l.length → clo (fun j => listed.getD j false) → (List.range l.length).countP (fun j => !listed.getD j false) ≤ fuel →
      Inv C (doneR (fun j => listed.getD j false) 0 is r) (doneM (fun j => listed.getD j false) 0 is m) a w F ν → wpAny C.P .any l.toArray (Q.lift C) fuel listed a w := by
    intro fuel
    induction fuel with
    | zero =>
      intro listed a w F ν hsz hclo hfu hi
      have hall : ∀ j, j < l.length → listed.getD j false = true := by
        intro j hj
        have h0 := List.countP_eq_zero.1 (Nat.le_zero.1 hfu) j (by simpa using hj)
        simpa using h0
      refine ⟨?_, fin listed hall hi⟩
      cases hrd : Region.ready .any l.toArray listed with
      | nil => rfl
      | cons x xs =>
        exfalso
        have hx : x ∈ Region.ready .any l.toArray listed := by rw [hrd]; simp
        obtain ⟨h1, h2, _⟩ := ready_get hsz hx
        rw [hall x h1] at h2; cases h2
    | succ fuel ih =>
      intro listed a w F ν hsz hclo hfu hi
      refine ⟨fun hnil => ?_, fun k hk => ?_⟩
      · refine fin listed (fun j => ?_) hi
        induction j using Nat.strongRecOn with
        | _ j ihj =>
          intro hj
          cases hb : listed.getD j false with
          | true => rfl
          | false =>
            exfalso
            have : j ∈ Region.ready .any l.toArray listed := by
              simp only [Region.ready, List.mem_filter, List.mem_range, List.size_toArray, Bool.and_eq_true, Bool.not_eq_true']
              refine ⟨hj, ?_, ?_⟩
              · rw [Array.getD_eq_getD_getElem?] at hb ⊢
                have : j < listed.size := by omega
                simpa [this] using hb
              · have hO1 := List.all_eq_true.1 hO j (by simpa using hj)
                simp only [List.getElem?_eq_getElem hj, Array.all_eq_true', Bool.or_eq_true, Bool.not_eq_true', decide_eq_true_eq] at hO1
                simp only [List.getElem?_toArray, List.getElem?_eq_getElem hj, Option.map_some, Option.getD_some, Array.all_eq_true', Bool.or_eq_true, Bool.not_eq_true']
                intro e he
                rcases hO1 e he with h | h
                · exact .inl h
                · exact .inr (ihj e.on h (by omega))
            rw [hnil] at this; simp at this
      · obtain ⟨hlt, hnot, hpre⟩ := ready_get hsz hk
        have hko : l[k]? = some l[k] := by simp [hlt]
        have hki : is[k]? = some (is[k]'(by omega)) := by simp [hlen, hlt]
        generalize l[k] = o at hko
        generalize is[k]'(by omega) = i at hki
        have hs := hstp k o i hko hki
        have hpre' : ∀ e ∈ o.after, Region.binds .any e = true → listed.getD e.on false = true := hpre o hko
        have hT' := tcl _ hclo k o hko hpre'
        have later : ∀ j, listed.getD j false = true → k ∉ T.getD j [] := by
          intro j hj hc
          have hjl : j < l.length := by
            rcases Nat.lt_or_ge j l.length with h' | h'
            · exact h'
            · rw [Array.getD_eq_getD_getElem?, Array.getElem?_eq_none (by omega)] at hj; simp at hj
          have := tcl _ hclo j l[j] (by simp [hjl]) (hclo j _ (by simp [hjl]) hj) k hc
          rw [hnot] at this; cases this
        -- the names that the operation looks at read as in the text's order
        have hR : ∀ t ∈ i.rd, lookR (doneR (fun j => listed.getD j false) 0 is r) t = lookR (doneR (fun j => decide (j < k)) 0 is r) t := by
          intro t ht
          refine doneR_congr (fun j b hj hd => ?_) rfl
          simp only [Nat.zero_add]
          rcases Nat.lt_trichotomy j k with h' | h' | h'
          · have := (pairs j k b i hj hki).1 h' (by simp [Info.meets, hd, ht])
            rw [hT' j this]; simp [h']
          · subst h'; rw [hnot]; simp
          · have hkj := (pairs k j i b hki hj).1 h' (by simp [Info.meets, hd, ht])
            have : listed.getD j false = false := by
              cases hb : listed.getD j false with
              | false => rfl
              | true => exact absurd hkj (later j hb)
            rw [this]; simp; omega
        have hM : ∀ id ∈ i.mks, look (doneM (fun j => listed.getD j false) 0 is m) id = look (doneM (fun j => decide (j < k)) 0 is m) id := by
          intro id hid
          refine doneM_congr (fun j b hj hd => ?_) rfl
          simp only [Nat.zero_add]
          obtain ⟨x, hx, hxi⟩ := List.any_eq_true.1 hd
          simp only [beq_iff_eq] at hxi
          rcases Nat.lt_trichotomy j k with h' | h' | h'
          · have := (pairs j k b i hj hki).1 h' (by
              simp only [Info.meets, Bool.or_eq_true, List.any_eq_true, List.contains_iff_mem]
              exact .inl (.inr ⟨x, hx, .inl (by rw [hxi]; exact hid)⟩))
            rw [hT' j this]; simp [h']
          · subst h'; rw [hnot]; simp
          · have hkj := (pairs k j i b hki hj).1 h' (by
              simp only [Info.meets, Bool.or_eq_true, List.any_eq_true, List.contains_iff_mem]
              exact .inr ⟨x, hx, by rw [hxi]; exact hid⟩)
            have : listed.getD j false = false := by
              cases hb : listed.getD j false with
              | false => rfl
              | true => exact absurd hkj (later j hb)
            rw [this]; simp; omega
        -- the state behind it
        have next : ∀ {a' : Act} {w' : World} {F' : Fz} {ν' : Nu}, Inv C (setR (doneR (fun j => listed.getD j false) 0 is r) i.dst i.pv) (i.upd ++ doneM (fun j => listed.getD j false) 0 is m) a' w' F' ν' →
            wpAny C.P .any l.toArray (Q.lift C) fuel (listed.setIfInBounds k true) a' w' := by
          intro a' w' F' ν' hi'
          have hsetk : ∀ j, (listed.setIfInBounds k true).getD j false = if j = k then true else listed.getD j false := by
            intro j
            rw [Array.getD_eq_getD_getElem?, Array.getD_eq_getD_getElem?]
            by_cases hjk : j = k
            · subst hjk; simp [show j < listed.size by omega]
            · rw [Array.getElem?_setIfInBounds_ne (fun h => hjk h.symm), if_neg hjk]
          refine ih _ a' w' F' ν' (by simp [hsz]) (fun j oj hj hE e he hb => ?_) ?_ (hi'.sub ⟨fun t p hp => ⟨p, ?_, Le.same⟩, fun id e he => ⟨e, ?_, LeE.same⟩⟩)
          · change (listed.setIfInBounds k true).getD j false = true at hE
            show (listed.setIfInBounds k true).getD e.on false = true
            rw [hsetk] at hE ⊢
            by_cases hjk : j = k
            · subst hjk
              rw [hko] at hj; cases hj
              split
              · rfl
              · exact hpre' e he hb
            · rw [if_neg hjk] at hE
              split
              · rfl
              · exact hclo j oj hj hE e he hb
          · have := count_out k (fun j => !listed.getD j false) (fun j => !(listed.setIfInBounds k true).getD j false) (fun j hj => by simp only [hsetk, if_neg hj]) (by simp only [hsetk, if_pos, Bool.not_true]) (by simp only [hnot, Bool.not_false]) l.length
            rw [if_pos hlt] at this
            omega
          · rw [← hp]
            by_cases hd : i.dst = some t
            · have hl : ∀ (is : List Info) (c : Nat) (r : Regs), (∀ j b, is[j]? = some b → b.dst = some t → c + j ≤ k ∨ (listed.setIfInBounds k true).getD (c + j) false = false) → c ≤ k → is[k - c]? = some i →
                  lookR (doneR (fun j => (listed.setIfInBounds k true).getD j false) c is r) t = i.pv := by
                intro is
                induction is with
                | nil => intro c r _ _ h; simp at h
                | cons b is ihl =>
                  intro c r hb hck hik
                  by_cases hc : c = k
                  · subst hc
                    simp only [Nat.sub_self, List.getElem?_cons_zero, Option.some.injEq] at hik; subst hik
                    have hc' : (listed.setIfInBounds c true).getD c false = true := by rw [hsetk, if_pos rfl]
                    simp only [doneR, hc', if_true]
                    have : lookR (doneR (fun j => (listed.setIfInBounds c true).getD j false) (c + 1) is (setR r b.dst b.pv)) t = lookR (doneR (fun _ => false) (c + 1) is (setR r b.dst b.pv)) t :=
                      doneR_congr (fun j x hj hx => by
                        rcases hb (j + 1) x (by simpa using hj) hx with h | h
                        · omega
                        · rwa [show c + 1 + j = c + (j + 1) by omega]) rfl
                    rw [this]
                    have z : ∀ (is : List Info) (c : Nat) (r : Regs), doneR (fun _ => false) c is r = r := by
                      intro is
                      induction is with
                      | nil => intro c r; rfl
                      | cons x is ihz => intro c r; simp only [doneR]; exact ihz _ _
                    rw [z, hd]
                    simp [setR, lookR]
                  · simp only [doneR]
                    refine ihl (c + 1) _ (fun j x hj hx => ?_) (by omega) ?_
                    · have := hb (j + 1) x (by simpa using hj) hx
                      rwa [show c + 1 + j = c + (j + 1) by omega]
                    · rw [show k - c = (k - (c + 1)) + 1 by omega] at hik
                      simpa using hik
              rw [hl is 0 r (fun j b hj hb => ?_) (by omega) (by simpa using hki)]
              · rw [hd]; simp [setR, lookR]
              · simp only [Nat.zero_add]
                by_cases hjk : j ≤ k
                · exact .inl hjk
                · refine .inr ?_
                  rw [hsetk, if_neg (by omega)]
                  cases hbb : listed.getD j false with
                  | false => rfl
                  | true =>
                    have := (pairs k j i b hki hj).1 (by omega) (by simp [Info.meets, hd, hb])
                    exact absurd this (later j hbb)
            · have e1 : lookR (setR (doneR (fun j => listed.getD j false) 0 is r) i.dst i.pv) t = lookR (doneR (fun j => listed.getD j false) 0 is r) t := by
                cases hd' : i.dst with
                | none => rfl
                | some d => simp only [setR, lookR]; rw [if_neg (by rintro rfl; exact hd hd')]
              rw [e1]
              refine doneR_congr (fun j b hj hb => ?_) rfl
              simp only [Nat.zero_add]
              rw [hsetk]
              by_cases hjk : j = k
              · subst hjk; rw [hki] at hj; cases hj; exact absurd hb hd
              · rw [if_neg hjk]
          · rw [← he]
            by_cases hd : i.upd.any (fun x => x.1 == id) = true
            · have hl : ∀ (is : List Info) (c : Nat) (m : MemL), (∀ j b, is[j]? = some b → b.upd.any (fun x => x.1 == id) = true → c + j ≤ k ∨ (listed.setIfInBounds k true).getD (c + j) false = false) → c ≤ k → is[k - c]? = some i →
                  look (doneM (fun j => (listed.setIfInBounds k true).getD j false) c is m) id = look i.upd id := by
                intro is
                induction is with
                | nil => intro c r _ _ h; simp at h
                | cons b is ihl =>
                  intro c m hb hck hik
                  by_cases hc : c = k
                  · subst hc
                    simp only [Nat.sub_self, List.getElem?_cons_zero, Option.some.injEq] at hik; subst hik
                    have hc' : (listed.setIfInBounds c true).getD c false = true := by rw [hsetk, if_pos rfl]
                    simp only [doneM, hc', if_true]
                    have : look (doneM (fun j => (listed.setIfInBounds c true).getD j false) (c + 1) is (b.upd ++ m)) id = look (doneM (fun _ => false) (c + 1) is (b.upd ++ m)) id :=
                      doneM_congr (fun j x hj hx => by
                        rcases hb (j + 1) x (by simpa using hj) hx with h | h
                        · omega
                        · rwa [show c + 1 + j = c + (j + 1) by omega]) rfl
                    rw [this]
                    have z : ∀ (is : List Info) (c : Nat) (m : MemL), doneM (fun _ => false) c is m = m := by
                      intro is
                      induction is with
                      | nil => intro c r; rfl
                      | cons x is ihz => intro c r; simp only [doneM]; exact ihz _ _
                    rw [z, look_app, if_pos hd]
                  · simp only [doneM]
                    refine ihl (c + 1) _ (fun j x hj hx => ?_) (by omega) ?_
                    · have := hb (j + 1) x (by simpa using hj) hx
                      rwa [show c + 1 + j = c + (j + 1) by omega]
                    · rw [show k - c = (k - (c + 1)) + 1 by omega] at hik
                      simpa using hik
              rw [hl is 0 m (fun j b hj hb => ?_) (by omega) (by simpa using hki), look_app, if_pos hd]
              simp only [Nat.zero_add]
              by_cases hjk : j ≤ k
              · exact .inl hjk
              · refine .inr ?_
                rw [hsetk, if_neg (by omega)]
                cases hbb : listed.getD j false with
                | false => rfl
                | true =>
                  obtain ⟨x, hx, hxi⟩ := List.any_eq_true.1 hd
                  obtain ⟨y, hy, hyi⟩ := List.any_eq_true.1 hb
                  simp only [beq_iff_eq] at hxi hyi
                  have := (pairs k j i b hki hj).1 (by omega) (by
                    simp only [Info.meets, Bool.or_eq_true, List.any_eq_true, beq_iff_eq]
                    exact .inl (.inr ⟨x, hx, .inr ⟨y, hy, by rw [hxi, hyi]⟩⟩))
                  exact absurd this (later j hbb)
            · rw [look_app, if_neg hd]
              refine doneM_congr (fun j b hj hb => ?_) rfl
              simp only [Nat.zero_add]
              rw [hsetk]
              by_cases hjk : j = k
              · subst hjk; rw [hki] at hj; cases hj; exact absurd hb hd
              · rw [if_neg hjk]
        have hkn : k < l.toArray.size := by simpa using hlt
        unfold wpOp
        rw [List.getElem?_toArray, hko]
        simp only
        rcases hs with ⟨ins, mem, hT1, hw1, hin1, hm1, hd1, hd2, hrd, hmk⟩ | ⟨hw1, hd1, hd2, hrd, hpv, hup⟩
        · rw [if_pos ((hw1.move fun t ht => hR t (by rw [hrd]; exact List.mem_append_right _ ht)).wanted hi)]
          refine .inl ?_
          have hin := InsOK.move (fun t ht => hR t (by rw [hrd]; exact List.mem_append_left _ ht)) hin1
          have hm := MemOK.move (fun id hid => hM id (by rw [hmk]; exact hid)) hm1
          have hnew : ∀ s ∈ i.new, look C.M s = none ∧ look (doneM (fun j => listed.getD j false) 0 is m) s = none ∧ (∀ i e, look (doneM (fun j => listed.getD j false) 0 is m) i = some e → e.says s = false) ∧ ∀ t p, lookR (doneR (fun j => listed.getD j false) 0 is r) t = some p → p.says s = false := by
            intro s hsn
            have hf := fresh_get (List.all_eq_true.1 hN i (List.mem_of_getElem? hki)) s hsn
            have hsay : ∀ j b, is[j]? = some b → listed.getD (0 + j) false = true → b.says s = false := by
              intro j b hj hE
              simp only [Nat.zero_add] at hE
              cases hb : b.says s with
              | false => rfl
              | true =>
                have hjk : j ≠ k := by rintro rfl; rw [hnot] at hE; cases hE
                exact absurd ((pairs j k b i hj hki).2 hjk s hsn hb) (later j hE)
            have h2 := doneM_says (E := fun j => listed.getD j false) (k := 0) ⟨hf.2.1, hf.2.2.1⟩ hsay
            exact ⟨hf.1, h2.1, h2.2, doneR_says (E := fun j => listed.getD j false) (k := 0) hf.2.2.2 hsay⟩
          refine hT1 a w F ν _ hi.gok hi.st (fun x hx => by obtain ⟨q, hq, hl⟩ := hin.get x hx; exact hl _ _ _ (hi.op hq)) hm.get (fun s hs => (hnew s hs).2.1) (fun id e he s hs => (hnew s hs).2.2.1 id e he) _ _ fun v w' F' ν' h1 h2 h3 h4 => ?_
          have hd1' : dstOK C i.dst = true := by rw [hd2]; exact hd1
          have := hi.step' (d := i.dst) hnew hd1' h1 h2 h3 h4
          rw [hd2] at this
          rw [← hd2] at this ⊢
          exact next this
        · rw [if_neg (by rw [(hw1.move fun t ht => hR t (by rw [hrd]; exact ht)).wanted hi]; simp)]
          have hd1' : dstOK C i.dst = true := by rw [hd2]; exact hd1
          have := hi.step' (new := []) (d := i.dst) (pv := i.pv) (upd := i.upd) (v := undef) (w' := w) (F' := F) (ν' := ν) (by simp) hd1' (by rw [hpv]; rintro _ ⟨⟩; exact VR.undef) (by rw [hup]; exact hi.st) (by rw [hup]; exact Ext.refl _ _ _ _) (fun _ _ => rfl)
          rw [← hd2]
          exact next this
  intro a w F ν hi
  have hdrew : Inv C r m a { w with drawn := w.drawn + 1 } F ν :=
    ⟨⟨hi.st.fz, fun id e he => (hi.st.ents id e he).mono (new := []) F.le_refl (fun _ => .inl rfl) (by simp) (fun _ _ => ⟨rfl, fun _ => rfl⟩), hi.st.dist⟩, hi.regs, hi.size, hi.defers, ⟨hi.ext.os, hi.ext.tape, hi.ext.output, hi.ext.size, hi.ext.mono, hi.ext.keep, hi.ext.blocks⟩, hi.same, hi.gok⟩
  have rep : ∀ j, (Array.replicate l.toArray.size false).getD j false = false := by
    intro j
    rw [Array.getD_eq_getD_getElem?]
    by_cases h : j < l.toArray.size
    · rw [Array.getElem?_replicate, if_pos h]; rfl
    · rw [Array.getElem?_replicate, if_neg h]; rfl
  refine wp_region_any hmix (key _ _ _ _ F ν (by simp) (fun k o _ hE => ?_) ?_ ?_)
  · change (Array.replicate l.toArray.size false).getD k false = true at hE
    rw [rep] at hE; cases hE
  · have := List.countP_le_length (p := fun j => !(Array.replicate l.toArray.size false).getD j false) (l := List.range l.length)
    simpa using this
  · refine hdrew.sub ⟨fun t p hp => ⟨p, ?_, Le.same⟩, fun id e he => ⟨e, ?_, LeE.same⟩⟩
    · have z : ∀ (is : List Info) (c : Nat) (r : Regs), doneR (fun j => (Array.replicate l.toArray.size false).getD j false) c is r = r := by
        intro is
        induction is with
        | nil => intro c r; rfl
        | cons x is ihz =>
          intro c r
          have h0 := rep c
          simp only [doneR, h0, Bool.false_eq_true, if_false]
          exact ihz _ _
      rw [z] at hp; exact hp
    · have z : ∀ (is : List Info) (c : Nat) (m : MemL), doneM (fun j => (Array.replicate l.toArray.size false).getD j false) c is m = m := by
        intro is
        induction is with
        | nil => intro c r; rfl
        | cons x is ihz =>
          intro c r
          have h0 := rep c
          simp only [doneM, h0, Bool.false_eq_true, if_false]
          exact ihz _ _
      rw [z] at he; exact he
end Go.Ab
