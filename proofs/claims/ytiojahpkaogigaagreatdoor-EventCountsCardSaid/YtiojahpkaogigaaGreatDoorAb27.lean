/- The entries of a script as the printed texts bear them. Conditions: none. -/
import Derived.Test.YtiojahpkaogigaaGreatDoorAb26
namespace Go.Ab
variable {P : Program} {Γ : Gl}
theorem ite_or {α : Type} {b : Bool} {x y z : α} (h : (if b = true then x else y) = z) : (b = true ∧ x = z) ∨ (b = false ∧ y = z) := by
  cases b with
  | true => exact .inl ⟨rfl, by simpa using h⟩
  | false => exact .inr ⟨rfl, by simpa using h⟩
namespace It
/-- An element of a frozen row. -/
def x {α : Type} {xs : List α} {i : Int} {y : α} (f : α → List FV) (h : idx xs i = some y) : It P Γ := .ix (idx_some h).1 (idx_mapI f (idx_some h).2)
def xr {α : Type} {xs : List α} {i : Int} {y : α} {f : α → List FV} {g : α → List FV} (hc : ∀ z, f z = g z) (h : idx xs i = some y) : It P Γ := .ix (xs := xs.map f) (n := i) (cs := g y) (idx_some h).1 (by rw [← hc]; exact idx_mapI f (idx_some h).2)
/-- The element that a round over a row looks at. -/
def e {α : Type} {xs : List α} {i : Nat} {y : α} (f : α → List FV) (h : xs[i]? = some y) : It P Γ := .ix (n := (i : Int)) (Int.natCast_nonneg _) (idx_map f h)
def er {α : Type} {xs : List α} {i : Nat} {y : α} {f : α → List FV} {g : α → List FV} (hc : ∀ z, f z = g z) (h : xs[i]? = some y) : It P Γ := .ix (xs := xs.map f) (n := (i : Int)) (cs := g y) (Int.natCast_nonneg _) (by rw [← hc]; exact idx_map f h)
def l {α : Type} (f : α → List FV) (xs : List α) : It P Γ := .ln (len_map f xs)
/-- 'append'. -/
def a {α : Type} {f : α → List FV} {sz nb : Nat} {xs ys zs : List α} (w : Bool) (hl : ∀ z, (f z).length = sz) (h : app nb xs ys = some zs) : It P Γ :=
  .ap w (xs := xs.map f) (zs := zs.map f) (nb := nb) (all_map hl ys) (by rw [(app_some h).1]; exact map_app f xs ys) (by simpa only [len_map] using (app_some h).2.1) (by simpa only [len_map] using (app_some h).2.2)
/-- 'xs[l:h]'. -/
def s {α : Type} {f : α → List FV} {sz : Nat} {xs zs : List α} {lo hi : Int} (hl : ∀ z, (f z).length = sz) (h : slc xs lo hi = some zs) : It P Γ :=
  .sl (zs := zs.map f) (all_map hl xs) (slc_some h).1 (slc_some h).2.1 (by rw [len_map]; exact (slc_some h).2.2.1) (by rw [(slc_some h).2.2.2, List.map_drop, List.map_take])
/-- 'xs[l:]'. -/
def s0 {α : Type} {f : α → List FV} {sz : Nat} {xs zs : List α} {lo : Int} (hl : ∀ z, (f z).length = sz) (h : slc xs lo xs.length = some zs) : It P Γ :=
  .sl (zs := zs.map f) (h := ((xs.map f).length : Int)) (all_map hl xs) (slc_some h).1 (by rw [len_map]; exact (slc_some h).2.1) (Int.le_refl _) (by rw [(slc_some h).2.2.2, List.map_drop, List.map_take, len_map])
def d {a b c : Int} (h : rem a b = some c) : It P Γ := .rm (rem_some h).1 (rem_some h).2
def q {k : IntKind} {a b c : Int} (h : quo k a b = some c) : It P Γ := .qu (quo_some h).1 (quo_some h).2
def p {a b c : List UInt8} (h : sadd a b = some c) : It P Γ := .sa (sadd_some h).1 (sadd_some h).2
/-- A slice literal. -/
def b {α : Type} (w : Bool) (f : α → List FV) (l : List α) : It P Γ := .bs w (rfl : l.map f = l.map f)
def br {α : Type} (w : Bool) {f : α → List FV} {g : α → List FV} (hc : ∀ z, f z = g z) (l : List α) : It P Γ := .bs w (rows := l.map g) (rows' := l.map f) (by rw [funext hc])
/-- A store. -/
def o {α : Type} {f : α → List FV} {sz : Nat} {xs : List α} {i : Int} {y : α} (hl : ∀ z, (f z).length = sz) (h : idx xs i = some y) (v : α) : It P Γ := .sto (cs := f y) (ys := f v) (idx_mapI f (idx_some h).2) (set_row hl)
def oe {α : Type} {f : α → List FV} {sz : Nat} {xs : List α} {i : Nat} {y : α} (hl : ∀ z, (f z).length = sz) (h : xs[i]? = some y) (v : α) : It P Γ := .sto (i := ((i : Nat) : Int).toNat) (cs := f y) (ys := f v) (idx_map f h) (set_row hl)
def or {α : Type} {f : α → List FV} {g : α → List FV} {sz : Nat} {xs : List α} {i : Int} {y : α} (hc : ∀ z, f z = g z) (hl : ∀ z, (f z).length = sz) (h : idx xs i = some y) (v : α) : It P Γ := .sto (cs := f y) (ys := g v) (idx_mapI f (idx_some h).2) (xs' := (xs.set i.toNat v).map f) (by rw [← hc]; exact set_row hl)
def oer {α : Type} {f : α → List FV} {g : α → List FV} {sz : Nat} {xs : List α} {i : Nat} {y : α} (hc : ∀ z, f z = g z) (hl : ∀ z, (f z).length = sz) (h : xs[i]? = some y) (v : α) : It P Γ := .sto (i := ((i : Nat) : Int).toNat) (cs := f y) (ys := g v) (xs' := (xs.set ((i : Nat) : Int).toNat v).map f) (idx_map f h) (by rw [← hc]; exact set_row hl)
/-- An element of a table of the program. -/
def g {α : Type} {f : α → FV} {xs : List α} {i : Int} {y : α} (h : idx xs i = some y) : It P Γ := .gx (cells := xs.map f) (len := xs.length) (idx_some h).1 (lt_arr (idx_some h).1 (lt_of_idx (idx_some h).2) rfl) (drop_idx (idx_some h).2)
/-- A byte of a string. -/
def c {s : List UInt8} {i : Int} {y : UInt8} (h : idx s i = some y) : It P Γ := .sx (idx_some h).1 (idx_some h).2
/-- Maps. -/
def lkp {t kt et : TypeId} {κ β : Type} [DecidableEq κ] {ek : κ → Value} {ev : β → Value} {z : β} (ht : P.underlying t = some (.map kt et)) (hk : KT P kt ek) (hz : ∀ w, (zeroValue et).run P w = .ok (ev z) w) (h1 : ∀ b, (ev b).oneCell' = true) (m : List (κ × β)) (k : κ) : It P Γ :=
  .lk (t := t) (es := mrow ek ev m) (kv := ek k) (res := ev ((mget k m).getD z)) fun _ _ _ _ _ ho hp => OpT.lookup ho ht hk hz hp (h1 _)
def mup {t kt et : TypeId} {κ β : Type} [DecidableEq κ] {ek : κ → Value} (ev : β → Value) (ht : P.underlying t = some (.map kt et)) (hk : KT P kt ek) (m : List (κ × β)) (k : κ) (v : β) : It P Γ :=
  .mu (t := t) (es := mrow ek ev m) (es' := mrow ek ev (mput k v m)) (kv := ek k) (vv := ev v) fun _ _ _ _ _ _ _ ho hp hv => OpT.mapUpdate ho ht hk hp hv
def cmp {f : FuncId} {fn : Func} (hf : P.funcs[f]? = some fn) (hname : (fn.name == "runtime.NumGoroutine") = false) (hb : fn.body.isNone = true) (hn : Extern.findNext fn = none) (he : Extern.find fn = some Extern.BytealgCompare.compare) : It P Γ :=
  .cs fun _ _ _ _ _ _ _ ho => OpT.cmpstr ho hf hname hb hn he
end It

def Tb.of (t : Tab) (si : List (Nat × (Nat × Nat))) (ap : List (Nat × (Nat × Nat × Nat))) (bi : List (Nat × (List Value × List (Nat × Nat)))) (fg : List (Nat × (Nat × Nat))) (ik : List (Nat × IntKind)) (st bo : List (Nat × Unit)) (ar : List (Nat × (Nat × Nat × Nat))) (ci : List (Nat × Unit)) : Tb :=
  ⟨t, lookT si, lookT ap, lookT bi, fun s f => bif Nat.blt f 100 then lookT fg (s * 100 + f) else none, lookT ik, fun t => (lookT st t).isSome, fun t => (lookT bo t).isSome, lookT ar, fun f => (lookT ci f).isSome⟩
theorem TbOK.of {t : Tab} (ht : TabOK P t) {si : List (Nat × (Nat × Nat))} {ap : List (Nat × (Nat × Nat × Nat))} {bi : List (Nat × (List Value × List (Nat × Nat)))} {fg : List (Nat × (Nat × Nat))} {ik : List (Nat × IntKind)} {st bo : List (Nat × Unit)} {ar : List (Nat × (Nat × Nat × Nat))} {ci : List (Nat × Unit)}
    (h1 : allT (fun t x => SI P t x.1 x.2) si) (h2 : allT (fun t x => AT P t x.1 x.2.1 x.2.2) ap) (h3 : allT (fun t x => BI P t x.1 x.2) bi) (h4 : allT (fun k x => FG P (k / 100) (k % 100) x.1 x.2) fg) (h5 : allT (fun t k => P.underlying t = some (.int k)) ik)
    (h6 : allT (fun t _ => P.underlying t = some .string) st) (h7 : allT (fun t _ => P.underlying t = some .bool) bo) (h8 : allT (fun t x => P.underlying t = some (.array x.1 x.2.1) ∧ (P.info? x.2.1).map (·.size) = some x.2.2) ar) (h9 : allT (fun f _ => CI P f) ci) : TbOK P (Tb.of t si ap bi fg ik st bo ar ci) where
  t := ht
  si := fun t e n h => lookT_all (p := fun t x => SI P t x.1 x.2) h1 h
  ap := fun t e n b h => lookT_all (p := fun t x => AT P t x.1 x.2.1 x.2.2) h2 h
  bi := fun t zs pl h => lookT_all h3 h
  fg := fun s f off ft h => by
    simp only [Tb.of] at h
    cases hf : Nat.blt f 100 with
    | false => rw [hf] at h; cases h
    | true =>
      rw [hf] at h
      have := lookT_all h4 h
      have hlt : f < 100 := Nat.le_of_ble_eq_true hf
      have key : ∀ s f : Nat, f < 100 → (s * 100 + f) / 100 = s ∧ (s * 100 + f) % 100 = f := fun s f h => by omega
      have hk := key s f hlt
      rwa [hk.1, hk.2] at this
  ik := fun t k h => lookT_all h5 h
  st := fun t h => by
    simp only [Tb.of] at h
    cases hl : lookT st t with
    | none => rw [hl] at h; cases h
    | some u => exact lookT_all (p := fun t _ => P.underlying t = some .string) h6 hl
  bo := fun t h => by
    simp only [Tb.of] at h
    cases hl : lookT bo t with
    | none => rw [hl] at h; cases h
    | some u => exact lookT_all (p := fun t _ => P.underlying t = some .bool) h7 hl
  ar := fun t n e sz h => lookT_all h8 h
  ci := fun f h => by
    simp only [Tb.of] at h
    cases hl : lookT ci f with
    | none => rw [hl] at h; cases h
    | some u => exact lookT_all (p := fun f _ => CI P f) h9 hl
end Go.Ab
