/- Functions, and that the calls come to them. Conditions: none. -/
import Derived.Test.YtiojahpkaogigaaGreatDoorGfa
set_option maxRecDepth 100000
set_option linter.unusedVariables false
set_option linter.unusedSimpArgs false
namespace Go.Proofs.YtiojahpkaogigaaGreatDoor
open Go Go.Ab
-- triggerstore/triggerstoreref5.Copy
def Fr5_Copy (k : Nat) (a0 : List GValue) : Option (List GValue) :=
  ((app 32 ([] : List GValue) a0).bind fun l1 => (some l1))
theorem fr5_Copy_ok {k : Nat} {a0 : List GValue} {r : List GValue} (h : Fr5_Copy k a0 = some r) :
    ACalls Tryz.prog gl 29 [(pL GValue.cells a0)] [] (pL GValue.cells r) [] [] := by
  refine ACalls.enter sys Tryz.func29 fun w F ν => ?_
  unfold Fr5_Copy at h
  obtain ⟨l1, hv2, h⟩ := bind_some h
  obtain rfl := Option.some.inj h
  refine AConf.go sys 0 100 [.a false GValue.cells_len hv2, .frz 7143 100] ?_
  exact AConf.fin

-- triggerstore/triggerstoreref17.copyRows
def Fr17_copyRows.b1 (k : Nat) (x46 : GRow) (i45 : Nat) (s44 : List GRow) : Option (Go.Ab.Step (List GRow) (List GRow)) :=
  ((Fr5_Copy k x46.Values).bind fun p48 => ((app 32 s44 ([(GRow.mk x46.ID p48)])).bind fun l50 => (some (.cont l50))))
def Fr17_copyRows (k : Nat) (a0 : List GRow) : Option (List GRow) :=
  ((loopL (Fr17_copyRows.b1 k) a0 0 ([] : List GRow)).bind fun out => Out.el out (fun r0 => some r0) fun s52 => (some s52))
theorem fr17_copyRows_ok {k : Nat} {a0 : List GRow} {r : List GRow} (h : Fr17_copyRows k a0 = some r) :
    ACalls Tryz.prog gl 26 [(pL GRow.cells a0)] [] (pL GRow.cells r) [] [] := by
  refine ACalls.enter sys Tryz.func26 fun w F ν => ?_
  unfold Fr17_copyRows at h
  refine AConf.go sys 0 100 [.l GRow.cells a0, .ownR 8953 false 3 108 93 2] ?_
  refine AConf.range (bodyOf Tryz.f26) [1, 0, 1, 1] (fun (s44 : List GRow) => ([(2, some pN), (3, some (.osl 108)), (6, some (pL GRow.cells a0)), (7, some (pI (a0.length : Int)))], [(108, some (.arr false 93 2 (s44.map GRow.cells)))])) (bR 0 GRow.cells) h (fun _ h => h.symm) (fun s52 h => ?_) (fun i45 x46 s44 o43 hx47 h hrt => ?_)
  · obtain rfl := Option.some.inj h
    refine AConf.go sys 0 112 [.frz 8960 108] ?_
    exact AConf.fin
  · unfold Fr17_copyRows.b1 at h
    obtain ⟨p48, hp49, h⟩ := bind_some h
    obtain ⟨l50, hv51, h⟩ := bind_some h
    refine AConf.go sys 0 109 [.e GRow.cells hx47, .call (fr5_Copy_ok hp49), .b false GRow.cells ([(GRow.mk x46.ID p48)]), .a false GRow.cells_len hv51, .kp 10 [2, 3, 6, 7, 8] [111], .ren 10 111 108] ?_
    exact AConf.rngC h

-- triggerstore/triggerstoreref4.Find
def Fr4_Find.b1 (a1 : List UInt8) (x21 : GColumn) (i20 : Nat) (s19 : Unit) : Option (Go.Ab.Step Int Unit) :=
  (if decide (x21.Name = a1) = true then (some (.ret (i20 : Int))) else (some (.cont ())))
def Fr4_Find (k : Nat) (a0 : GSchema) (a1 : List UInt8) : Option Int :=
  ((loopL (Fr4_Find.b1 a1) a0.Columns 0 ()).bind fun out => Out.el out (fun r0 => some r0) fun _ => (some (-1)))
theorem fr4_Find_ok {k : Nat} {a0 : GSchema} {a1 : List UInt8} {r : Int} (h : Fr4_Find k a0 a1 = some r) :
    ACalls Tryz.prog gl 27 [(.agg (GSchema.pvs a0)), (pS a1)] [] (pI r) [] [] := by
  refine ACalls.enter sys Tryz.func27 fun w F ν => ?_
  unfold Fr4_Find at h
  refine AConf.go sys 0 100 [.l GColumn.cells a0.Columns] ?_
  refine AConf.range (bodyOf Tryz.f27) [1, 0, 1] (fun (_s : Unit) => ([(1, some (pS a1)), (4, some (pI 0)), (8, some (pL GColumn.cells a0.Columns)), (9, some (pI (a0.Columns.length : Int)))], [])) (bR 8 GColumn.cells) h (fun _ h => h.symm) (fun _ h => ?_) (fun i20 x21 _ o18 hx22 h hrt => ?_)
  · obtain rfl := Option.some.inj h
    refine AConf.go sys 0 103 [] ?_
    exact AConf.fin
  · unfold Fr4_Find.b1 at h
    refine AConf.go sys 0 102 [.e GColumn.cells hx22] ?_
    rcases ite_or h with ⟨hb23, h⟩ | ⟨hb23, h⟩
    · obtain rfl := Option.some.inj h
      obtain rfl := hrt _ rfl
      refine AConf.go sys 0 103 [.k hb23] ?_
      refine AConf.rngR ?_
      exact AConf.fin
    · refine AConf.go sys 0 103 [.k hb23] ?_
      exact AConf.rngC h

-- triggerstore/triggerstoreref8.Differs
def Fr8_Differs.j0 (q7 : Bool) : Option Bool :=
  (some q7)
def Fr8_Differs (k : Nat) (a0 : GPair) (a1 : Int) : Option Bool :=
  (if decide (a1 < (a0.Old.length : Int)) = true then (if decide (a1 < (a0.New.length : Int)) = true then ((idx a0.Old a1).bind fun x10 => ((idx a0.New a1).bind fun x12 => (Fr8_Differs.j0 (!decide (x10 = x12))))) else (Fr8_Differs.j0 false)) else (Fr8_Differs.j0 false))
theorem fr8_Differs_ok {k : Nat} {a0 : GPair} {a1 : Int} {r : Bool} (h : Fr8_Differs k a0 a1 = some r) :
    ACalls Tryz.prog gl 28 [(.agg (GPair.pvs a0)), (pI a1)] [] (pB r) [] [] := by
  refine ACalls.enter sys Tryz.func28 fun w F ν => ?_
  unfold Fr8_Differs at h
  refine AConf.go sys 8001 100 [] ?_
  refine AConf.join (ι := Bool) (bodyOf Tryz.f28) [1] (fun q7 => Fr8_Differs.j0 q7 = some r) (fun (q7 : Bool) => ([(4, some (pB q7))], [])) ?_ fun q7 h => ?_
  · rcases ite_or h with ⟨hb8, h⟩ | ⟨hb8, h⟩
    · rcases ite_or h with ⟨hb9, h⟩ | ⟨hb9, h⟩
      · obtain ⟨x10, hv11, h⟩ := bind_some h
        obtain ⟨x12, hv13, h⟩ := bind_some h
        refine AConf.go sys 0 101 [.l GValue.cells a0.Old, .kk 3 hb8, .l GValue.cells a0.New, .kk 1 hb8, .kk 3 hb9, .x GValue.cells hv11, .kk 4 hb9, .x GValue.cells hv13, .kk 1 hb9, .eq eg91 (eq91 x10 x12), .k hb9] ?_
        exact AConf.joinN (i := (!decide (x10 = x12))) h
      · refine AConf.go sys 0 101 [.l GValue.cells a0.Old, .kk 3 hb8, .l GValue.cells a0.New, .kk 1 hb8, .kk 11 hb9] ?_
        exact AConf.joinN (i := false) h
    · refine AConf.go sys 0 101 [.l GValue.cells a0.Old, .kk 5 hb8, .kk 11 (rfl : false = _)] ?_
      exact AConf.joinN (i := false) h
  · unfold Fr8_Differs.j0 at h
    obtain rfl := Option.some.inj h
    refine AConf.go sys 0 101 [] ?_
    exact AConf.fin

-- triggerstore/triggerstoreref17.Matching
def Fr17_Matching.j0 (a2 : GDelta) (q235 : (List GRow) × (List GRow) × (List GPair)) : Option GDelta :=
  (some (GDelta.mk a2.Table q235.1 q235.2.1 q235.2.2))
def Fr17_Matching.b12 (k : Nat) (a1 : GSchema) (x396 : GPair) (x453 : List UInt8) (i452 : Nat) (s451 : Bool) : Option (Go.Ab.Step GDelta Bool) :=
  ((Fr4_Find k a1 x453).bind fun p455 => (if s451 = true then (some (.cont true)) else (if decide (0 ≤ p455) = true then ((Fr8_Differs k x396 p455).bind fun p459 => (some (.cont p459))) else (some (.cont false)))))
def Fr17_Matching.b13 (k : Nat) (a0 : GTrigger) (a1 : GSchema) (x396 : GPair) (i395 : Nat) (s394 : List GPair) : Option (Go.Ab.Step GDelta (List GPair)) :=
  ((loopL (Fr17_Matching.b12 k a1 x396) a0.Of 0 (decide ((a0.Of.length : Int) = 0))).bind fun out => Out.el out (fun r0 => some (.ret r0)) fun s461 => (if s461 = true then ((Fr5_Copy k x396.Old).bind fun p463 => ((Fr5_Copy k x396.New).bind fun p465 => ((app 56 s394 ([(GPair.mk x396.ID p463 p465)])).bind fun l467 => (some (.cont l467))))) else (some (.cont s394))))
def Fr17_Matching (k : Nat) (a0 : GTrigger) (a1 : GSchema) (a2 : GDelta) : Option GDelta :=
  (if decide (a0.Event = 1) = true then ((Fr17_copyRows k a2.Inserted).bind fun p237 => (Fr17_Matching.j0 a2 (p237, [], ([] : List GPair)))) else (if decide (a0.Event = 3) = true then ((Fr17_copyRows k a2.Deleted).bind fun p240 => (Fr17_Matching.j0 a2 ([], p240, ([] : List GPair)))) else (if decide (a0.Event = 2) = true then ((loopL (Fr17_Matching.b13 k a0 a1) a2.Updated 0 ([] : List GPair)).bind fun out => Out.el out (fun r0 => some r0) fun s469 => (Fr17_Matching.j0 a2 ([], [], s469))) else (Fr17_Matching.j0 a2 ([], [], ([] : List GPair))))))
theorem fr17_Matching_ok {k : Nat} {a0 : GTrigger} {a1 : GSchema} {a2 : GDelta} {r : GDelta} (h : Fr17_Matching k a0 a1 a2 = some r) :
    ACalls Tryz.prog gl 9 [(.agg (GTrigger.pvs a0)), (.agg (GSchema.pvs a1)), (.agg (GDelta.pvs a2))] [] (.agg (GDelta.pvs r)) [] [] := by
  refine ACalls.enter sys Tryz.func9 fun w F ν => ?_
  unfold Fr17_Matching at h
  refine AConf.go sys 7143 100 [] ?_
  refine AConf.join (ι := (List GRow) × (List GRow) × (List GPair)) (bodyOf Tryz.f9) [1, 1] (fun q235 => Fr17_Matching.j0 a2 q235 = some r) (fun (q235 : (List GRow) × (List GRow) × (List GPair)) => ([(6, some (.ptr 103 0)), (7, some (.ptr 104 0))], [(103, some (.var [(pS []), pN, pN, pN])), (117, some (.arr false 84 3 (q235.2.2.map GPair.cells))), (104, some (.var [(pS a2.Table), (pL GRow.cells q235.1), (pL GRow.cells q235.2.1), (.osl 117)]))])) ?_ fun q235 h => ?_
  · rcases ite_or h with ⟨hb236, h⟩ | ⟨hb236, h⟩
    · obtain ⟨p237, hp238, h⟩ := bind_some h
      refine AConf.go sys 0 118 [.k hb236, .call (fr17_copyRows_ok hp238), .kp 5 [6, 7] [103, 104], .ownC 5 false 104 3 117 84 3] ?_
      exact AConf.joinN (i := (p237, [], ([] : List GPair))) h
    · refine AConf.go sys 0 118 [.k hb236] ?_
      rcases ite_or h with ⟨hb239, h⟩ | ⟨hb239, h⟩
      · obtain ⟨p240, hp241, h⟩ := bind_some h
        refine AConf.go sys 0 118 [.k hb239, .call (fr17_copyRows_ok hp241), .kp 5 [6, 7] [103, 104], .ownC 5 false 104 3 117 84 3] ?_
        exact AConf.joinN (i := ([], p240, ([] : List GPair))) h
      · refine AConf.go sys 0 118 [.k hb239] ?_
        rcases ite_or h with ⟨hb242, h⟩ | ⟨hb242, h⟩
        · refine AConf.go sys 0 118 [.k hb242, .l GPair.cells a2.Updated, .ownC 4374 false 104 3 126 84 3] ?_
          refine AConf.range (bodyOf Tryz.f9) [1, 4, 1, 5, 1, 5, 1, 3, 1, 2, 1, 1] (fun (s394 : List GPair) => ([(3, some (.ptr 100 0)), (4, some (.ptr 101 0)), (6, some (.ptr 103 0)), (7, some (.ptr 104 0)), (34, some (pL GPair.cells a2.Updated)), (35, some (pI (a2.Updated.length : Int)))], [(100, some (.var (GTrigger.pvs a0))), (101, some (.var (GSchema.pvs a1))), (103, some (.var [(pS []), pN, pN, pN])), (126, some (.arr false 84 3 (s394.map GPair.cells))), (104, some (.var [(pS a2.Table), pN, pN, (.osl 126)]))])) (bR 34 GPair.cells) h (fun _ h => h.symm) (fun s469 h => ?_) (fun i395 x396 s394 o393 hx397 h hrt => ?_)
          · refine AConf.go sys 0 130 [.kp 0 [6, 7] [103, 104, 126], .ren 0 126 117] ?_
            exact AConf.joinN (i := ([], [], s469)) h
          · unfold Fr17_Matching.b13 at h
            refine AConf.go sys 0 127 [.e GPair.cells hx397, .l cS a0.Of, .l cS a0.Of] ?_
            refine AConf.range (bodyOf Tryz.f9) [1, 0, 1, 1, 9, 1, 4, 1, 5, 1, 5, 1, 3, 1, 2, 1, 1] (fun (s451 : Bool) => ([(3, some (.ptr 100 0)), (4, some (.ptr 101 0)), (6, some (.ptr 103 0)), (7, some (.ptr 104 0)), (9, some (.ptr 127 0)), (10, some (pB s451)), (34, some (pL GPair.cells a2.Updated)), (35, some (pI (a2.Updated.length : Int))), (36, some (pI (i395 : Int))), (45, some (pL cS a0.Of)), (46, some (pI (a0.Of.length : Int)))], [(100, some (.var (GTrigger.pvs a0))), (101, some (.var (GSchema.pvs a1))), (103, some (.var [(pS []), pN, pN, pN])), (126, some (.arr false 84 3 (s394.map GPair.cells))), (104, some (.var [(pS a2.Table), pN, pN, (.osl 126)])), (127, some (.var (GPair.pvs x396)))])) (bR 41 cS) h hrt (fun s461 h => ?_) (fun i452 x453 s451 o450 hx454 h hrt => ?_)
            · rcases ite_or h with ⟨hb462, h⟩ | ⟨hb462, h⟩
              · obtain ⟨p463, hp464, h⟩ := bind_some h
                obtain ⟨p465, hp466, h⟩ := bind_some h
                obtain ⟨l467, hv468, h⟩ := bind_some h
                refine AConf.go sys 0 128 [.k hb462, .call (fr5_Copy_ok hp464), .call (fr5_Copy_ok hp466), .b false GPair.cells ([(GPair.mk x396.ID p463 p465)]), .a false GPair.cells_len hv468, .kp 15 [3, 4, 6, 7, 34, 35, 36] [100, 101, 103, 104, 129], .ren 15 129 126] ?_
                exact AConf.rngC h
              · refine AConf.go sys 0 128 [.k hb462] ?_
                exact AConf.rngC h
            · unfold Fr17_Matching.b12 at h
              obtain ⟨p455, hp456, h⟩ := bind_some h
              refine AConf.go sys 0 128 [.e cS hx454, .call (fr4_Find_ok hp456)] ?_
              rcases ite_or h with ⟨hb457, h⟩ | ⟨hb457, h⟩
              · refine AConf.go sys 0 128 [.kk 4 hb457] ?_
                exact AConf.rngC h
              · refine AConf.go sys 0 128 [.kk 2 hb457] ?_
                rcases ite_or h with ⟨hb458, h⟩ | ⟨hb458, h⟩
                · obtain ⟨p459, hp460, h⟩ := bind_some h
                  refine AConf.go sys 0 128 [.kk 2 hb458, .call (fr8_Differs_ok hp460), .k hb457, .k hb458, .k hb457] ?_
                  exact AConf.rngC h
                · refine AConf.go sys 0 128 [.kk 2 hb458, .k hb457, .k hb458, .k hb457] ?_
                  exact AConf.rngC h
        · refine AConf.go sys 0 118 [.k hb242, .kp 4757 [6, 7] [103, 104], .ownC 4757 false 104 3 117 84 3] ?_
          exact AConf.joinN (i := ([], [], ([] : List GPair))) h
  · unfold Fr17_Matching.j0 at h
    obtain rfl := Option.some.inj h
    refine AConf.go sys 0 118 [.frz 8960 117] ?_
    exact AConf.fin

-- triggerstore/triggerstoreworld.New
def Fw_New.j0 (q4 : List Int) : Option GTape :=
  (some (GTape.mk q4 0))
def Fw_New (k : Nat) (a0 : List Int) : Option GTape :=
  (if decide (500 < (a0.length : Int)) = true then ((slc a0 0 500).bind fun v6 => (Fw_New.j0 v6)) else (Fw_New.j0 a0))
theorem fw_New_ok {k : Nat} {a0 : List Int} {r : GTape} (h : Fw_New k a0 = some r) :
    ACalls Tryz.prog gl 4 [(pL cI a0)] [] (.ptr 0 0) [(0, some (.var (GTape.pvs r)))] [0] := by
  refine ACalls.enter sys Tryz.func4 fun w F ν => ?_
  unfold Fw_New at h
  refine AConf.go sys 8001 0 [] ?_
  refine AConf.join (ι := List Int) (bodyOf Tryz.f4) [1] (fun q4 => Fw_New.j0 q4 = some r) (fun (q4 : List Int) => ([(0, some (pL cI q4)), (2, some (.c (.raw (.pointer none))))], [])) ?_ fun q4 h => ?_
  · refine AConf.go sys 0 100 [.l cI a0] ?_
    rcases ite_or h with ⟨hb5, h⟩ | ⟨hb5, h⟩
    · obtain ⟨v6, hv7, h⟩ := bind_some h
      refine AConf.go sys 0 100 [.k hb5, .s (f := cI) (sz := 1) (fun _ => rfl) hv7] ?_
      exact AConf.joinN (i := v6) h
    · refine AConf.go sys 0 100 [.k hb5] ?_
      exact AConf.joinN (i := a0) h
  · unfold Fw_New.j0 at h
    obtain rfl := Option.some.inj h
    refine AConf.go sys 0 0 [] ?_
    exact AConf.fin

-- triggerstore/event.Find$1
def Fevent_Find_1 (k : Nat) (a0 : GDelta) (c0 : List UInt8) : Option Bool :=
  (some (decide (a0.Table = c0)))
theorem fevent_Find_1_ok {k : Nat} {a0 : GDelta} {c0 : List UInt8} {r : Bool} (h : Fevent_Find_1 k a0 c0 = some r) :
    ACalls Tryz.prog gl 63 [(.agg (GDelta.pvs a0)), (.ptr 60 0)] [(60, some (.var [(pS c0)]))] (pB r) [(60, some (.var [(pS c0)]))] [] := by
  refine ACalls.enter sys Tryz.func63 fun w F ν => ?_
  unfold Fevent_Find_1 at h
  obtain rfl := Option.some.inj h
  refine AConf.go sys 0 100 [] ?_
  exact AConf.fin

-- slices.IndexFunc[[]triggerstore/api.Delta,triggerstore/api.Delta]
def Fslices_IndexFunc_Delta_event_Find_1.b1 (k : Nat) (c0 : List UInt8) (x27 : GDelta) (i26 : Nat) (s25 : Unit) : Option (Go.Ab.Step Int Unit) :=
  ((Fevent_Find_1 k x27 c0).bind fun p29 => (if p29 = true then (some (.ret (i26 : Int))) else (some (.cont ()))))
def Fslices_IndexFunc_Delta_event_Find_1 (k : Nat) (a0 : List GDelta) (c0 : List UInt8) : Option Int :=
  ((loopL (Fslices_IndexFunc_Delta_event_Find_1.b1 k c0) a0 0 ()).bind fun out => Out.el out (fun r0 => some r0) fun _ => (some (-1)))
theorem fslices_IndexFunc_Delta_event_Find_1_ok {k : Nat} {a0 : List GDelta} {c0 : List UInt8} {r : Int} (h : Fslices_IndexFunc_Delta_event_Find_1 k a0 c0 = some r) :
    ACalls Tryz.prog gl 62 [(pL GDelta.cells a0), (.func 63 [(.ptr 60 0)])] [(60, some (.var [(pS c0)]))] (pI r) [(60, some (.var [(pS c0)]))] [] := by
  refine ACalls.enter sys Tryz.func62 fun w F ν => ?_
  unfold Fslices_IndexFunc_Delta_event_Find_1 at h
  refine AConf.go sys 0 100 [.l GDelta.cells a0] ?_
  refine AConf.range (bodyOf Tryz.f62) [1, 0, 1] (fun (_s : Unit) => ([(0, some (pL GDelta.cells a0)), (1, some (.func 63 [(.ptr 60 0)])), (4, some (pI 0)), (7, some (pI (a0.length : Int)))], [(60, some (.var [(pS c0)]))])) (bR 0 GDelta.cells) h (fun _ h => h.symm) (fun _ h => ?_) (fun i26 x27 _ o24 hx28 h hrt => ?_)
  · obtain rfl := Option.some.inj h
    refine AConf.go sys 0 100 [] ?_
    exact AConf.fin
  · unfold Fslices_IndexFunc_Delta_event_Find_1.b1 at h
    obtain ⟨p29, hp30, h⟩ := bind_some h
    refine AConf.go sys 0 100 [.e GDelta.cells hx28, .call (fevent_Find_1_ok hp30)] ?_
    rcases ite_or h with ⟨hb31, h⟩ | ⟨hb31, h⟩
    · obtain rfl := Option.some.inj h
      obtain rfl := hrt _ rfl
      refine AConf.go sys 0 100 [.k hb31] ?_
      refine AConf.rngR ?_
      exact AConf.fin
    · refine AConf.go sys 0 100 [.k hb31] ?_
      exact AConf.rngC h

-- triggerstore/event.Find
def Fevent_Find (k : Nat) (a0 : List GDelta) (a1 : List UInt8) : Option (GDelta × Bool) :=
  ((Fslices_IndexFunc_Delta_event_Find_1 k a0 a1).bind fun p1 => (if decide (p1 < 0) = true then (some ((GDelta.mk [] [] [] []), false)) else ((idx a0 p1).bind fun x5 => (some (x5, true)))))
theorem fevent_Find_ok {k : Nat} {a0 : List GDelta} {a1 : List UInt8} {r : GDelta × Bool} (h : Fevent_Find k a0 a1 = some r) :
    ACalls Tryz.prog gl 21 [(pL GDelta.cells a0), (pS a1)] [] (.tup [(.agg (GDelta.pvs r.1)), (pB r.2)]) [] [] := by
  refine ACalls.enter sys Tryz.func21 fun w F ν => ?_
  unfold Fevent_Find at h
  obtain ⟨p1, hp2, h⟩ := bind_some h
  refine AConf.go sys 0 100 [.ren 2 100 60, .call (fslices_IndexFunc_Delta_event_Find_1_ok hp2)] ?_
  rcases ite_or h with ⟨hb4, h⟩ | ⟨hb4, h⟩
  · obtain rfl := Option.some.inj h
    refine AConf.go sys 0 102 [.k hb4] ?_
    exact AConf.fin
  · obtain ⟨x5, hv6, h⟩ := bind_some h
    obtain rfl := Option.some.inj h
    refine AConf.go sys 0 102 [.k hb4, .x GDelta.cells hv6] ?_
    exact AConf.fin

-- triggerstore/scope.Source$1
def Fscope_Source_1 (k : Nat) (a0 : GTable) (c0 : List UInt8) : Option Bool :=
  (some (decide (a0.Schema.Name = c0)))
theorem fscope_Source_1_ok {k : Nat} {a0 : GTable} {c0 : List UInt8} {r : Bool} (h : Fscope_Source_1 k a0 c0 = some r) :
    ACalls Tryz.prog gl 65 [(.agg (GTable.pvs a0)), (.ptr 60 0)] [(60, some (.var [(pS c0)]))] (pB r) [(60, some (.var [(pS c0)]))] [] := by
  refine ACalls.enter sys Tryz.func65 fun w F ν => ?_
  unfold Fscope_Source_1 at h
  obtain rfl := Option.some.inj h
  refine AConf.go sys 0 100 [] ?_
  exact AConf.fin

-- slices.IndexFunc[[]triggerstore/api.Table,triggerstore/api.Table]
def Fslices_IndexFunc_Table_scope_Source_1.b1 (k : Nat) (c0 : List UInt8) (x27 : GTable) (i26 : Nat) (s25 : Unit) : Option (Go.Ab.Step Int Unit) :=
  ((Fscope_Source_1 k x27 c0).bind fun p29 => (if p29 = true then (some (.ret (i26 : Int))) else (some (.cont ()))))
def Fslices_IndexFunc_Table_scope_Source_1 (k : Nat) (a0 : List GTable) (c0 : List UInt8) : Option Int :=
  ((loopL (Fslices_IndexFunc_Table_scope_Source_1.b1 k c0) a0 0 ()).bind fun out => Out.el out (fun r0 => some r0) fun _ => (some (-1)))
theorem fslices_IndexFunc_Table_scope_Source_1_ok {k : Nat} {a0 : List GTable} {c0 : List UInt8} {r : Int} (h : Fslices_IndexFunc_Table_scope_Source_1 k a0 c0 = some r) :
    ACalls Tryz.prog gl 64 [(pL GTable.cells a0), (.func 65 [(.ptr 60 0)])] [(60, some (.var [(pS c0)]))] (pI r) [(60, some (.var [(pS c0)]))] [] := by
  refine ACalls.enter sys Tryz.func64 fun w F ν => ?_
  unfold Fslices_IndexFunc_Table_scope_Source_1 at h
  refine AConf.go sys 0 100 [.l GTable.cells a0] ?_
  refine AConf.range (bodyOf Tryz.f64) [1, 0, 1] (fun (_s : Unit) => ([(0, some (pL GTable.cells a0)), (1, some (.func 65 [(.ptr 60 0)])), (4, some (pI 0)), (7, some (pI (a0.length : Int)))], [(60, some (.var [(pS c0)]))])) (bR 0 GTable.cells) h (fun _ h => h.symm) (fun _ h => ?_) (fun i26 x27 _ o24 hx28 h hrt => ?_)
  · obtain rfl := Option.some.inj h
    refine AConf.go sys 0 100 [] ?_
    exact AConf.fin
  · unfold Fslices_IndexFunc_Table_scope_Source_1.b1 at h
    obtain ⟨p29, hp30, h⟩ := bind_some h
    refine AConf.go sys 0 100 [.e GTable.cells hx28, .call (fscope_Source_1_ok hp30)] ?_
    rcases ite_or h with ⟨hb31, h⟩ | ⟨hb31, h⟩
    · obtain rfl := Option.some.inj h
      obtain rfl := hrt _ rfl
      refine AConf.go sys 0 100 [.k hb31] ?_
      refine AConf.rngR ?_
      exact AConf.fin
    · refine AConf.go sys 0 100 [.k hb31] ?_
      exact AConf.rngC h

-- slices.Clone[[]triggerstore/api.Column,triggerstore/api.Column]
def Fslices_Clone_Column (k : Nat) (a0 : List GColumn) : Option (List GColumn) :=
  ((app 32 ([] : List GColumn) a0).bind fun l1 => (some l1))
theorem fslices_Clone_Column_ok {k : Nat} {a0 : List GColumn} {r : List GColumn} (h : Fslices_Clone_Column k a0 = some r) :
    ACalls Tryz.prog gl 66 [(pL GColumn.cells a0)] [] (pL GColumn.cells r) [] [] := by
  refine ACalls.enter sys Tryz.func66 fun w F ν => ?_
  unfold Fslices_Clone_Column at h
  refine AConf.go sys 0 100 [] ?_
  refine AConf.nilS 3 GColumn.cells a0 (fun hx => ?_) (fun ad nn cc => ?_)
  · subst hx
    have h : (some []) = some r := h
    obtain rfl := Option.some.inj h
    refine AConf.go sys 0 100 [.T] ?_
    exact AConf.fin
  · obtain ⟨l1, hv2, h⟩ := bind_some h
    obtain rfl := Option.some.inj h
    refine AConf.go sys 0 100 [.N, .b false GColumn.cells ([] : List GColumn), .a false GColumn.cells_len hv2, .frz 1137 101] ?_
    exact AConf.fin

-- triggerstore/scope.Source
def Fscope_Source (k : Nat) (a0 : List GTable) (a1 : List UInt8) : Option (GSchema × Bool) :=
  ((Fslices_IndexFunc_Table_scope_Source_1 k a0 a1).bind fun p1 => (if decide (p1 < 0) = true then (some ((GSchema.mk [] []), false)) else ((idx a0 p1).bind fun x5 => ((Fslices_Clone_Column k x5.Schema.Columns).bind fun p7 => (some ((GSchema.mk x5.Schema.Name p7), true))))))
theorem fscope_Source_ok {k : Nat} {a0 : List GTable} {a1 : List UInt8} {r : GSchema × Bool} (h : Fscope_Source k a0 a1 = some r) :
    ACalls Tryz.prog gl 22 [(pL GTable.cells a0), (pS a1)] [] (.tup [(.agg (GSchema.pvs r.1)), (pB r.2)]) [] [] := by
  refine ACalls.enter sys Tryz.func22 fun w F ν => ?_
  unfold Fscope_Source at h
  obtain ⟨p1, hp2, h⟩ := bind_some h
  refine AConf.go sys 0 100 [.ren 2 100 60, .call (fslices_IndexFunc_Table_scope_Source_1_ok hp2)] ?_
  rcases ite_or h with ⟨hb4, h⟩ | ⟨hb4, h⟩
  · obtain rfl := Option.some.inj h
    refine AConf.go sys 0 102 [.k hb4] ?_
    exact AConf.fin
  · obtain ⟨x5, hv6, h⟩ := bind_some h
    obtain ⟨p7, hp8, h⟩ := bind_some h
    obtain rfl := Option.some.inj h
    refine AConf.go sys 0 102 [.k hb4, .x GTable.cells hv6, .call (fslices_Clone_Column_ok hp8)] ?_
    exact AConf.fin

-- slices.Clone[[]triggerstore/api.Value,triggerstore/api.Value]
def Fslices_Clone_Value (k : Nat) (a0 : List GValue) : Option (List GValue) :=
  ((app 32 ([] : List GValue) a0).bind fun l1 => (some l1))
theorem fslices_Clone_Value_ok {k : Nat} {a0 : List GValue} {r : List GValue} (h : Fslices_Clone_Value k a0 = some r) :
    ACalls Tryz.prog gl 107 [(pL GValue.cells a0)] [] (pL GValue.cells r) [] [] := by
  refine ACalls.enter sys Tryz.func107 fun w F ν => ?_
  unfold Fslices_Clone_Value at h
  refine AConf.go sys 0 100 [] ?_
  refine AConf.nilS 3 GValue.cells a0 (fun hx => ?_) (fun ad nn cc => ?_)
  · subst hx
    have h : (some []) = some r := h
    obtain rfl := Option.some.inj h
    refine AConf.go sys 0 100 [.T] ?_
    exact AConf.fin
  · obtain ⟨l1, hv2, h⟩ := bind_some h
    obtain rfl := Option.some.inj h
    refine AConf.go sys 0 100 [.N, .b false GValue.cells ([] : List GValue), .a false GValue.cells_len hv2, .frz 1137 101] ?_
    exact AConf.fin

-- triggerstore/deep.Row
def Fdeep_Row (k : Nat) (a0 : GRow) : Option GRow :=
  ((Fslices_Clone_Value k a0.Values).bind fun p1 => (some (GRow.mk a0.ID p1)))
theorem fdeep_Row_ok {k : Nat} {a0 : GRow} {r : GRow} (h : Fdeep_Row k a0 = some r) :
    ACalls Tryz.prog gl 103 [(.agg (GRow.pvs a0))] [] (.agg (GRow.pvs r)) [] [] := by
  refine ACalls.enter sys Tryz.func103 fun w F ν => ?_
  unfold Fdeep_Row at h
  obtain ⟨p1, hp2, h⟩ := bind_some h
  obtain rfl := Option.some.inj h
  refine AConf.go sys 0 100 [.call (fslices_Clone_Value_ok hp2)] ?_
  exact AConf.fin

-- triggerstore/deep.list[triggerstore/api.Row]
def Fdeep_list_Row_deep_Row.b1 (k : Nat) (x46 : GRow) (i45 : Nat) (s44 : List GRow) : Option (Go.Ab.Step (List GRow) (List GRow)) :=
  ((Fdeep_Row k x46).bind fun p48 => ((app 32 s44 ([p48])).bind fun l50 => (some (.cont l50))))
def Fdeep_list_Row_deep_Row (k : Nat) (a0 : List GRow) : Option (List GRow) :=
  ((loopL (Fdeep_list_Row_deep_Row.b1 k) a0 0 ([] : List GRow)).bind fun out => Out.el out (fun r0 => some r0) fun s52 => (some s52))
theorem fdeep_list_Row_deep_Row_ok {k : Nat} {a0 : List GRow} {r : List GRow} (h : Fdeep_list_Row_deep_Row k a0 = some r) :
    ACalls Tryz.prog gl 102 [(pL GRow.cells a0), (.func 103 [])] [] (pL GRow.cells r) [] [] := by
  refine ACalls.enter sys Tryz.func102 fun w F ν => ?_
  unfold Fdeep_list_Row_deep_Row at h
  refine AConf.go sys 0 100 [.l GRow.cells a0, .ownR 8953 false 5 108 93 2] ?_
  refine AConf.range (bodyOf Tryz.f102) [1, 0, 1, 1] (fun (s44 : List GRow) => ([(1, some (.func 103 [])), (4, some pN), (5, some (.osl 108)), (8, some (pL GRow.cells a0)), (9, some (pI (a0.length : Int)))], [(108, some (.arr false 93 2 (s44.map GRow.cells)))])) (bR 0 GRow.cells) h (fun _ h => h.symm) (fun s52 h => ?_) (fun i45 x46 s44 o43 hx47 h hrt => ?_)
  · obtain rfl := Option.some.inj h
    refine AConf.go sys 0 112 [.frz 8960 108] ?_
    exact AConf.fin
  · unfold Fdeep_list_Row_deep_Row.b1 at h
    obtain ⟨p48, hp49, h⟩ := bind_some h
    obtain ⟨l50, hv51, h⟩ := bind_some h
    refine AConf.go sys 0 109 [.e GRow.cells hx47, .call (fdeep_Row_ok hp49), .b false GRow.cells ([p48]), .a false GRow.cells_len hv51, .kp 7 [1, 4, 5, 8, 9, 10] [111], .ren 7 111 108] ?_
    exact AConf.rngC h

-- triggerstore/deep.Rows
def Fdeep_Rows (k : Nat) (a0 : List GRow) : Option (List GRow) :=
  ((Fdeep_list_Row_deep_Row k a0).bind fun p1 => (some p1))
theorem fdeep_Rows_ok {k : Nat} {a0 : List GRow} {r : List GRow} (h : Fdeep_Rows k a0 = some r) :
    ACalls Tryz.prog gl 67 [(pL GRow.cells a0)] [] (pL GRow.cells r) [] [] := by
  refine ACalls.enter sys Tryz.func67 fun w F ν => ?_
  unfold Fdeep_Rows at h
  obtain ⟨p1, hp2, h⟩ := bind_some h
  obtain rfl := Option.some.inj h
  refine AConf.go sys 0 100 [.call (fdeep_list_Row_deep_Row_ok hp2)] ?_
  exact AConf.fin

-- triggerstore/schema.Find$1
def Fschema_Find_1 (k : Nat) (a0 : GColumn) (c0 : List UInt8) : Option Bool :=
  (some (decide (a0.Name = c0)))
theorem fschema_Find_1_ok {k : Nat} {a0 : GColumn} {c0 : List UInt8} {r : Bool} (h : Fschema_Find_1 k a0 c0 = some r) :
    ACalls Tryz.prog gl 126 [(.agg (GColumn.pvs a0)), (.ptr 60 0)] [(60, some (.var [(pS c0)]))] (pB r) [(60, some (.var [(pS c0)]))] [] := by
  refine ACalls.enter sys Tryz.func126 fun w F ν => ?_
  unfold Fschema_Find_1 at h
  obtain rfl := Option.some.inj h
  refine AConf.go sys 0 100 [] ?_
  exact AConf.fin

-- slices.IndexFunc[[]triggerstore/api.Column,triggerstore/api.Column]
def Fslices_IndexFunc_Column_schema_Find_1.b1 (k : Nat) (c0 : List UInt8) (x27 : GColumn) (i26 : Nat) (s25 : Unit) : Option (Go.Ab.Step Int Unit) :=
  ((Fschema_Find_1 k x27 c0).bind fun p29 => (if p29 = true then (some (.ret (i26 : Int))) else (some (.cont ()))))
def Fslices_IndexFunc_Column_schema_Find_1 (k : Nat) (a0 : List GColumn) (c0 : List UInt8) : Option Int :=
  ((loopL (Fslices_IndexFunc_Column_schema_Find_1.b1 k c0) a0 0 ()).bind fun out => Out.el out (fun r0 => some r0) fun _ => (some (-1)))
theorem fslices_IndexFunc_Column_schema_Find_1_ok {k : Nat} {a0 : List GColumn} {c0 : List UInt8} {r : Int} (h : Fslices_IndexFunc_Column_schema_Find_1 k a0 c0 = some r) :
    ACalls Tryz.prog gl 125 [(pL GColumn.cells a0), (.func 126 [(.ptr 60 0)])] [(60, some (.var [(pS c0)]))] (pI r) [(60, some (.var [(pS c0)]))] [] := by
  refine ACalls.enter sys Tryz.func125 fun w F ν => ?_
  unfold Fslices_IndexFunc_Column_schema_Find_1 at h
  refine AConf.go sys 0 100 [.l GColumn.cells a0] ?_
  refine AConf.range (bodyOf Tryz.f125) [1, 0, 1] (fun (_s : Unit) => ([(0, some (pL GColumn.cells a0)), (1, some (.func 126 [(.ptr 60 0)])), (4, some (pI 0)), (7, some (pI (a0.length : Int)))], [(60, some (.var [(pS c0)]))])) (bR 0 GColumn.cells) h (fun _ h => h.symm) (fun _ h => ?_) (fun i26 x27 _ o24 hx28 h hrt => ?_)
  · obtain rfl := Option.some.inj h
    refine AConf.go sys 0 100 [] ?_
    exact AConf.fin
  · unfold Fslices_IndexFunc_Column_schema_Find_1.b1 at h
    obtain ⟨p29, hp30, h⟩ := bind_some h
    refine AConf.go sys 0 100 [.e GColumn.cells hx28, .call (fschema_Find_1_ok hp30)] ?_
    rcases ite_or h with ⟨hb31, h⟩ | ⟨hb31, h⟩
    · obtain rfl := Option.some.inj h
      obtain rfl := hrt _ rfl
      refine AConf.go sys 0 100 [.k hb31] ?_
      refine AConf.rngR ?_
      exact AConf.fin
    · refine AConf.go sys 0 100 [.k hb31] ?_
      exact AConf.rngC h

-- triggerstore/schema.Find
def Fschema_Find (k : Nat) (a0 : GSchema) (a1 : List UInt8) : Option Int :=
  ((Fslices_IndexFunc_Column_schema_Find_1 k a0.Columns a1).bind fun p1 => (some p1))
theorem fschema_Find_ok {k : Nat} {a0 : GSchema} {a1 : List UInt8} {r : Int} (h : Fschema_Find k a0 a1 = some r) :
    ACalls Tryz.prog gl 106 [(.agg (GSchema.pvs a0)), (pS a1)] [] (pI r) [] [] := by
  refine ACalls.enter sys Tryz.func106 fun w F ν => ?_
  unfold Fschema_Find at h
  obtain ⟨p1, hp2, h⟩ := bind_some h
  obtain rfl := Option.some.inj h
  refine AConf.go sys 0 100 [.ren 3 101 60, .call (fslices_IndexFunc_Column_schema_Find_1_ok hp2)] ?_
  exact AConf.fin

-- triggerstore/trigger.differs$1
def Ftrigger_differs_1.j0 (q10 : Bool) : Option Bool :=
  (some q10)
def Ftrigger_differs_1 (k : Nat) (a0 : List UInt8) (c0 : GSchema) (c1 : GPair) : Option Bool :=
  ((Fschema_Find k c0 a0).bind fun p1 => (if decide (0 ≤ p1) = true then (if decide (p1 < (c1.Old.length : Int)) = true then (if decide (p1 < (c1.New.length : Int)) = true then ((idx c1.Old p1).bind fun x14 => ((idx c1.New p1).bind fun x16 => (Ftrigger_differs_1.j0 (!decide (x14 = x16))))) else (Ftrigger_differs_1.j0 false)) else (Ftrigger_differs_1.j0 false)) else (Ftrigger_differs_1.j0 false)))
theorem ftrigger_differs_1_ok {k : Nat} {a0 : List UInt8} {c0 : GSchema} {c1 : GPair} {r : Bool} (h : Ftrigger_differs_1 k a0 c0 c1 = some r) :
    ACalls Tryz.prog gl 105 [(pS a0), (.ptr 60 0), (.ptr 61 0)] [(60, some (.var (GSchema.pvs c0))), (61, some (.var (GPair.pvs c1)))] (pB r) [(60, some (.var (GSchema.pvs c0))), (61, some (.var (GPair.pvs c1)))] [] := by
  refine ACalls.enter sys Tryz.func105 fun w F ν => ?_
  unfold Ftrigger_differs_1 at h
  obtain ⟨p1, hp2, h⟩ := bind_some h
  refine AConf.go sys 7143 100 [.call (fschema_Find_ok hp2)] ?_
  refine AConf.join (ι := Bool) (bodyOf Tryz.f105) [1, 1] (fun q10 => Ftrigger_differs_1.j0 q10 = some r) (fun (q10 : Bool) => ([(4, some (pB q10))], [(60, some (.var (GSchema.pvs c0))), (61, some (.var (GPair.pvs c1)))])) ?_ fun q10 h => ?_
  · rcases ite_or h with ⟨hb11, h⟩ | ⟨hb11, h⟩
    · rcases ite_or h with ⟨hb12, h⟩ | ⟨hb12, h⟩
      · rcases ite_or h with ⟨hb13, h⟩ | ⟨hb13, h⟩
        · obtain ⟨x14, hv15, h⟩ := bind_some h
          obtain ⟨x16, hv17, h⟩ := bind_some h
          refine AConf.go sys 0 100 [.kk 3 hb11, .l GValue.cells c1.Old, .kk 1 hb11, .kk 3 hb12, .l GValue.cells c1.New, .kk 1 hb12, .kk 3 hb13, .x GValue.cells hv15, .kk 4 hb13, .x GValue.cells hv17, .kk 1 hb13, .eq eg91 (eq91 x14 x16), .k hb13] ?_
          exact AConf.joinN (i := (!decide (x14 = x16))) h
        · refine AConf.go sys 0 100 [.kk 3 hb11, .l GValue.cells c1.Old, .kk 1 hb11, .kk 3 hb12, .l GValue.cells c1.New, .kk 1 hb12, .kk 11 hb13] ?_
          exact AConf.joinN (i := false) h
      · refine AConf.go sys 0 100 [.kk 3 hb11, .l GValue.cells c1.Old, .kk 1 hb11, .kk 5 hb12, .kk 11 (rfl : false = _)] ?_
        exact AConf.joinN (i := false) h
    · refine AConf.go sys 0 100 [.kk 5 hb11, .kk 17 (rfl : false = _)] ?_
      exact AConf.joinN (i := false) h
  · unfold Ftrigger_differs_1.j0 at h
    obtain rfl := Option.some.inj h
    refine AConf.go sys 0 100 [] ?_
    exact AConf.fin

-- slices.IndexFunc[[]string,string]
def Fslices_IndexFunc_string_trigger_differs_1.b1 (k : Nat) (c0 : GSchema) (c1 : GPair) (x27 : List UInt8) (i26 : Nat) (s25 : Unit) : Option (Go.Ab.Step Int Unit) :=
  ((Ftrigger_differs_1 k x27 c0 c1).bind fun p29 => (if p29 = true then (some (.ret (i26 : Int))) else (some (.cont ()))))
def Fslices_IndexFunc_string_trigger_differs_1 (k : Nat) (a0 : List (List UInt8)) (c0 : GSchema) (c1 : GPair) : Option Int :=
  ((loopL (Fslices_IndexFunc_string_trigger_differs_1.b1 k c0 c1) a0 0 ()).bind fun out => Out.el out (fun r0 => some r0) fun _ => (some (-1)))
theorem fslices_IndexFunc_string_trigger_differs_1_ok {k : Nat} {a0 : List (List UInt8)} {c0 : GSchema} {c1 : GPair} {r : Int} (h : Fslices_IndexFunc_string_trigger_differs_1 k a0 c0 c1 = some r) :
    ACalls Tryz.prog gl 124 [(pL cS a0), (.func 105 [(.ptr 60 0), (.ptr 61 0)])] [(60, some (.var (GSchema.pvs c0))), (61, some (.var (GPair.pvs c1)))] (pI r) [(60, some (.var (GSchema.pvs c0))), (61, some (.var (GPair.pvs c1)))] [] := by
  refine ACalls.enter sys Tryz.func124 fun w F ν => ?_
  unfold Fslices_IndexFunc_string_trigger_differs_1 at h
  refine AConf.go sys 0 100 [.l cS a0] ?_
  refine AConf.range (bodyOf Tryz.f124) [1, 0, 1] (fun (_s : Unit) => ([(0, some (pL cS a0)), (1, some (.func 105 [(.ptr 60 0), (.ptr 61 0)])), (4, some (pI 0)), (7, some (pI (a0.length : Int)))], [(60, some (.var (GSchema.pvs c0))), (61, some (.var (GPair.pvs c1)))])) (bR 0 cS) h (fun _ h => h.symm) (fun _ h => ?_) (fun i26 x27 _ o24 hx28 h hrt => ?_)
  · obtain rfl := Option.some.inj h
    refine AConf.go sys 0 100 [] ?_
    exact AConf.fin
  · unfold Fslices_IndexFunc_string_trigger_differs_1.b1 at h
    obtain ⟨p29, hp30, h⟩ := bind_some h
    refine AConf.go sys 0 100 [.e cS hx28, .call (ftrigger_differs_1_ok hp30)] ?_
    rcases ite_or h with ⟨hb31, h⟩ | ⟨hb31, h⟩
    · obtain rfl := Option.some.inj h
      obtain rfl := hrt _ rfl
      refine AConf.go sys 0 100 [.k hb31] ?_
      refine AConf.rngR ?_
      exact AConf.fin
    · refine AConf.go sys 0 100 [.k hb31] ?_
      exact AConf.rngC h

-- slices.ContainsFunc[[]string,string]
def Fslices_ContainsFunc_string_trigger_differs_1 (k : Nat) (a0 : List (List UInt8)) (c0 : GSchema) (c1 : GPair) : Option Bool :=
  ((Fslices_IndexFunc_string_trigger_differs_1 k a0 c0 c1).bind fun p1 => (some (decide (0 ≤ p1))))
theorem fslices_ContainsFunc_string_trigger_differs_1_ok {k : Nat} {a0 : List (List UInt8)} {c0 : GSchema} {c1 : GPair} {r : Bool} (h : Fslices_ContainsFunc_string_trigger_differs_1 k a0 c0 c1 = some r) :
    ACalls Tryz.prog gl 104 [(pL cS a0), (.func 105 [(.ptr 60 0), (.ptr 61 0)])] [(60, some (.var (GSchema.pvs c0))), (61, some (.var (GPair.pvs c1)))] (pB r) [(60, some (.var (GSchema.pvs c0))), (61, some (.var (GPair.pvs c1)))] [] := by
  refine ACalls.enter sys Tryz.func104 fun w F ν => ?_
  unfold Fslices_ContainsFunc_string_trigger_differs_1 at h
  obtain ⟨p1, hp2, h⟩ := bind_some h
  obtain rfl := Option.some.inj h
  refine AConf.go sys 0 100 [.call (fslices_IndexFunc_string_trigger_differs_1_ok hp2)] ?_
  exact AConf.fin

-- triggerstore/trigger.differs
def Ftrigger_differs (k : Nat) (a0 : GPair) (a1 : List (List UInt8)) (a2 : GSchema) : Option Bool :=
  ((Fslices_ContainsFunc_string_trigger_differs_1 k a1 a2 a0).bind fun p1 => (some p1))
theorem ftrigger_differs_ok {k : Nat} {a0 : GPair} {a1 : List (List UInt8)} {a2 : GSchema} {r : Bool} (h : Ftrigger_differs k a0 a1 a2 = some r) :
    ACalls Tryz.prog gl 68 [(.agg (GPair.pvs a0)), (pL cS a1), (.agg (GSchema.pvs a2))] [] (pB r) [] [] := by
  refine ACalls.enter sys Tryz.func68 fun w F ν => ?_
  unfold Ftrigger_differs at h
  obtain ⟨p1, hp2, h⟩ := bind_some h
  obtain rfl := Option.some.inj h
  refine AConf.go sys 0 100 [.ren 2 101 60, .ren 2 100 61, .call (fslices_ContainsFunc_string_trigger_differs_1_ok hp2)] ?_
  exact AConf.fin

-- triggerstore/deep.Pair
def Fdeep_Pair (k : Nat) (a0 : GPair) : Option GPair :=
  ((Fslices_Clone_Value k a0.Old).bind fun p1 => ((Fslices_Clone_Value k a0.New).bind fun p3 => (some (GPair.mk a0.ID p1 p3))))
theorem fdeep_Pair_ok {k : Nat} {a0 : GPair} {r : GPair} (h : Fdeep_Pair k a0 = some r) :
    ACalls Tryz.prog gl 69 [(.agg (GPair.pvs a0))] [] (.agg (GPair.pvs r)) [] [] := by
  refine ACalls.enter sys Tryz.func69 fun w F ν => ?_
  unfold Fdeep_Pair at h
  obtain ⟨p1, hp2, h⟩ := bind_some h
  obtain ⟨p3, hp4, h⟩ := bind_some h
  obtain rfl := Option.some.inj h
  refine AConf.go sys 0 100 [.call (fslices_Clone_Value_ok hp2), .call (fslices_Clone_Value_ok hp4)] ?_
  exact AConf.fin

-- triggerstore/trigger.Matching
def Ftrigger_Matching.j3 (a2 : GDelta) (q58 : (List GRow) × (List GRow) × (List GPair)) : Option GDelta :=
  (some (GDelta.mk a2.Table q58.1 q58.2.1 q58.2.2))
def Ftrigger_Matching.j6 (k : Nat) (s99 : List GPair) (x101 : GPair) (q106 : Bool) : Option (Go.Ab.Step GDelta (List GPair)) :=
  (if q106 = true then ((Fdeep_Pair k x101).bind fun p108 => ((app 56 s99 ([p108])).bind fun l110 => (some (.cont l110)))) else (some (.cont s99)))
def Ftrigger_Matching.b1 (k : Nat) (a0 : GTrigger) (a1 : GSchema) (x101 : GPair) (i100 : Nat) (s99 : List GPair) : Option (Go.Ab.Step GDelta (List GPair)) :=
  (if decide ((a0.Of.length : Int) = 0) = true then (Ftrigger_Matching.j6 k s99 x101 true) else ((Ftrigger_differs k x101 a0.Of a1).bind fun p113 => (Ftrigger_Matching.j6 k s99 x101 p113)))
def Ftrigger_Matching (k : Nat) (a0 : GTrigger) (a1 : GSchema) (a2 : GDelta) : Option GDelta :=
  (if decide (a0.Event = 1) = true then ((Fdeep_Rows k a2.Inserted).bind fun p60 => (Ftrigger_Matching.j3 a2 (p60, [], ([] : List GPair)))) else (if decide (a0.Event = 3) = true then ((Fdeep_Rows k a2.Deleted).bind fun p63 => (Ftrigger_Matching.j3 a2 ([], p63, ([] : List GPair)))) else (if decide (a0.Event = 2) = true then ((loopL (Ftrigger_Matching.b1 k a0 a1) a2.Updated 0 ([] : List GPair)).bind fun out => Out.el out (fun r0 => some r0) fun s115 => (Ftrigger_Matching.j3 a2 ([], [], s115))) else (Ftrigger_Matching.j3 a2 ([], [], ([] : List GPair))))))
theorem ftrigger_Matching_ok {k : Nat} {a0 : GTrigger} {a1 : GSchema} {a2 : GDelta} {r : GDelta} (h : Ftrigger_Matching k a0 a1 a2 = some r) :
    ACalls Tryz.prog gl 23 [(.agg (GTrigger.pvs a0)), (.agg (GSchema.pvs a1)), (.agg (GDelta.pvs a2))] [] (.agg (GDelta.pvs r)) [] [] := by
  refine ACalls.enter sys Tryz.func23 fun w F ν => ?_
  unfold Ftrigger_Matching at h
  refine AConf.go sys 7143 100 [] ?_
  refine AConf.join (ι := (List GRow) × (List GRow) × (List GPair)) (bodyOf Tryz.f23) [1, 1] (fun q58 => Ftrigger_Matching.j3 a2 q58 = some r) (fun (q58 : (List GRow) × (List GRow) × (List GPair)) => ([(6, some (.ptr 103 0)), (7, some (.ptr 104 0))], [(103, some (.var [(pS []), pN, pN, pN])), (117, some (.arr false 84 3 (q58.2.2.map GPair.cells))), (104, some (.var [(pS a2.Table), (pL GRow.cells q58.1), (pL GRow.cells q58.2.1), (.osl 117)]))])) ?_ fun q58 h => ?_
  · rcases ite_or h with ⟨hb59, h⟩ | ⟨hb59, h⟩
    · obtain ⟨p60, hp61, h⟩ := bind_some h
      refine AConf.go sys 0 118 [.k hb59, .call (fdeep_Rows_ok hp61), .kp 5 [6, 7] [103, 104], .ownC 5 false 104 3 117 84 3] ?_
      exact AConf.joinN (i := (p60, [], ([] : List GPair))) h
    · refine AConf.go sys 0 118 [.k hb59] ?_
      rcases ite_or h with ⟨hb62, h⟩ | ⟨hb62, h⟩
      · obtain ⟨p63, hp64, h⟩ := bind_some h
        refine AConf.go sys 0 118 [.k hb62, .call (fdeep_Rows_ok hp64), .kp 5 [6, 7] [103, 104], .ownC 5 false 104 3 117 84 3] ?_
        exact AConf.joinN (i := ([], p63, ([] : List GPair))) h
      · refine AConf.go sys 0 118 [.k hb62] ?_
        rcases ite_or h with ⟨hb65, h⟩ | ⟨hb65, h⟩
        · refine AConf.go sys 0 118 [.k hb65, .l GPair.cells a2.Updated, .ownC 4374 false 104 3 126 84 3] ?_
          refine AConf.range (bodyOf Tryz.f23) [1, 4, 1, 5, 1, 5, 1, 3, 1, 2, 1, 1] (fun (s99 : List GPair) => ([(3, some (.ptr 100 0)), (4, some (.ptr 101 0)), (6, some (.ptr 103 0)), (7, some (.ptr 104 0)), (30, some (pL GPair.cells a2.Updated)), (31, some (pI (a2.Updated.length : Int)))], [(100, some (.var (GTrigger.pvs a0))), (101, some (.var (GSchema.pvs a1))), (103, some (.var [(pS []), pN, pN, pN])), (126, some (.arr false 84 3 (s99.map GPair.cells))), (104, some (.var [(pS a2.Table), pN, pN, (.osl 126)]))])) (bR 30 GPair.cells) h (fun _ h => h.symm) (fun s115 h => ?_) (fun i100 x101 s99 o98 hx102 h hrt => ?_)
          · refine AConf.go sys 0 130 [.kp 0 [6, 7] [103, 104, 126], .ren 0 126 117] ?_
            exact AConf.joinN (i := ([], [], s115)) h
          · unfold Ftrigger_Matching.b1 at h
            refine AConf.go sys 2984 127 [.e GPair.cells hx102] ?_
            refine AConf.join (ι := Bool) (bodyOf Tryz.f23) [1, 9, 1, 4, 1, 5, 1, 5, 1, 3, 1, 2, 1, 1] (fun q106 => Ftrigger_Matching.j6 k s99 x101 q106 = some o98) (fun (q106 : Bool) => ([(3, some (.ptr 100 0)), (4, some (.ptr 101 0)), (6, some (.ptr 103 0)), (7, some (.ptr 104 0)), (9, some (.ptr 127 0)), (30, some (pL GPair.cells a2.Updated)), (31, some (pI (a2.Updated.length : Int))), (32, some (pI (i100 : Int))), (46, some (pB q106))], [(100, some (.var (GTrigger.pvs a0))), (101, some (.var (GSchema.pvs a1))), (103, some (.var [(pS []), pN, pN, pN])), (126, some (.arr false 84 3 (s99.map GPair.cells))), (104, some (.var [(pS a2.Table), pN, pN, (.osl 126)])), (127, some (.var (GPair.pvs x101)))])) ?_ fun q106 h => ?_
            · refine AConf.go sys 0 130 [.l cS a0.Of] ?_
              rcases ite_or h with ⟨hb112, h⟩ | ⟨hb112, h⟩
              · refine AConf.go sys 0 130 [.kk 5 hb112] ?_
                exact AConf.joinN (i := true) h
              · obtain ⟨p113, hp114, h⟩ := bind_some h
                refine AConf.go sys 0 130 [.kk 4 hb112, .call (ftrigger_differs_ok hp114), .k hb112] ?_
                exact AConf.joinN (i := p113) h
            · unfold Ftrigger_Matching.j6 at h
              rcases ite_or h with ⟨hb107, h⟩ | ⟨hb107, h⟩
              · obtain ⟨p108, hp109, h⟩ := bind_some h
                obtain ⟨l110, hv111, h⟩ := bind_some h
                refine AConf.go sys 0 128 [.k hb107, .call (fdeep_Pair_ok hp109), .b false GPair.cells ([p108]), .a false GPair.cells_len hv111, .kp 8 [3, 4, 6, 7, 30, 31, 32] [100, 101, 103, 104, 129], .ren 8 129 126] ?_
                exact AConf.rngC h
              · refine AConf.go sys 0 128 [.k hb107] ?_
                exact AConf.rngC h
        · refine AConf.go sys 0 118 [.k hb65, .kp 4757 [6, 7] [103, 104], .ownC 4757 false 104 3 117 84 3] ?_
          exact AConf.joinN (i := ([], [], ([] : List GPair))) h
  · unfold Ftrigger_Matching.j3 at h
    obtain rfl := Option.some.inj h
    refine AConf.go sys 0 118 [.frz 8960 117] ?_
    exact AConf.fin

-- triggerstore/event.rows
def Fevent_rows.b1 (a0 : GTrigger) (x36 : GRow) (i35 : Nat) (s34 : List GItem) : Option (Go.Ab.Step (List GItem) (List GItem)) :=
  ((app 72 s34 ([(GItem.mk a0.Name x36.ID [] x36.Values)])).bind fun l38 => (some (.cont l38)))
def Fevent_rows.b3 (a0 : GTrigger) (x76 : GRow) (i75 : Nat) (s74 : List GItem) : Option (Go.Ab.Step (List GItem) (List GItem)) :=
  ((app 72 s74 ([(GItem.mk a0.Name x76.ID x76.Values [])])).bind fun l78 => (some (.cont l78)))
def Fevent_rows.b5 (a0 : GTrigger) (x116 : GPair) (i115 : Nat) (s114 : List GItem) : Option (Go.Ab.Step (List GItem) (List GItem)) :=
  ((app 72 s114 ([(GItem.mk a0.Name x116.ID x116.Old x116.New)])).bind fun l118 => (some (.cont l118)))
def Fevent_rows (k : Nat) (a0 : GTrigger) (a1 : GDelta) : Option (List GItem) :=
  ((loopL (Fevent_rows.b1 a0) a1.Inserted 0 ([] : List GItem)).bind fun out => Out.el out (fun r0 => some r0) fun s40 => ((loopL (Fevent_rows.b3 a0) a1.Deleted 0 s40).bind fun out => Out.el out (fun r0 => some r0) fun s80 => ((loopL (Fevent_rows.b5 a0) a1.Updated 0 s80).bind fun out => Out.el out (fun r0 => some r0) fun s120 => (some s120))))
theorem fevent_rows_ok {k : Nat} {a0 : GTrigger} {a1 : GDelta} {r : List GItem} (h : Fevent_rows k a0 a1 = some r) :
    ACalls Tryz.prog gl 24 [(.agg (GTrigger.pvs a0)), (.agg (GDelta.pvs a1))] [] (pL GItem.cells r) [] [] := by
  refine ACalls.enter sys Tryz.func24 fun w F ν => ?_
  unfold Fevent_rows at h
  refine AConf.go sys 0 100 [.l GRow.cells a1.Inserted, .ownR 8953 false 5 110 53 4] ?_
  refine AConf.range (bodyOf Tryz.f24) [1, 0, 1, 1] (fun (s34 : List GItem) => ([(2, some (.ptr 100 0)), (3, some (.ptr 101 0)), (4, some pN), (5, some (.osl 110)), (13, some (pL GRow.cells a1.Inserted)), (14, some (pI (a1.Inserted.length : Int)))], [(110, some (.arr false 53 4 (s34.map GItem.cells))), (100, some (.var (GTrigger.pvs a0))), (101, some (.var (GDelta.pvs a1)))])) (bR 13 GRow.cells) h (fun _ h => h.symm) (fun s40 h => ?_) (fun i35 x36 s34 o33 hx37 h hrt => ?_)
  · refine AConf.go sys 0 114 [.l GRow.cells a1.Deleted] ?_
    refine AConf.range (bodyOf Tryz.f24) [1, 0, 1, 1, 1] (fun (s74 : List GItem) => ([(2, some (.ptr 100 0)), (3, some (.ptr 101 0)), (4, some pN), (5, some (.osl 110)), (31, some (pL GRow.cells a1.Deleted)), (32, some (pI (a1.Deleted.length : Int)))], [(110, some (.arr false 53 4 (s74.map GItem.cells))), (100, some (.var (GTrigger.pvs a0))), (101, some (.var (GDelta.pvs a1)))])) (bR 31 GRow.cells) h (fun _ h => h.symm) (fun s80 h => ?_) (fun i75 x76 s74 o73 hx77 h hrt => ?_)
    · refine AConf.go sys 0 123 [.l GPair.cells a1.Updated] ?_
      refine AConf.range (bodyOf Tryz.f24) [1, 0, 1, 1, 1, 1] (fun (s114 : List GItem) => ([(2, some (.ptr 100 0)), (4, some pN), (5, some (.osl 110)), (49, some (pL GPair.cells a1.Updated)), (50, some (pI (a1.Updated.length : Int)))], [(110, some (.arr false 53 4 (s114.map GItem.cells))), (100, some (.var (GTrigger.pvs a0)))])) (bR 49 GPair.cells) h (fun _ h => h.symm) (fun s120 h => ?_) (fun i115 x116 s114 o113 hx117 h hrt => ?_)
      · obtain rfl := Option.some.inj h
        refine AConf.go sys 0 132 [.frz 8236 110] ?_
        exact AConf.fin
      · unfold Fevent_rows.b5 at h
        obtain ⟨l118, hv119, h⟩ := bind_some h
        refine AConf.go sys 0 129 [.e GPair.cells hx117, .b false GItem.cells ([(GItem.mk a0.Name x116.ID x116.Old x116.New)]), .a false GItem.cells_len hv119, .kp 13 [2, 4, 5, 49, 50, 51] [100, 131], .ren 13 131 110] ?_
        exact AConf.rngC h
    · unfold Fevent_rows.b3 at h
      obtain ⟨l78, hv79, h⟩ := bind_some h
      refine AConf.go sys 0 120 [.e GRow.cells hx77, .b false GItem.cells ([(GItem.mk a0.Name x76.ID x76.Values [])]), .a false GItem.cells_len hv79, .kp 11 [2, 3, 4, 5, 31, 32, 33] [100, 101, 122], .ren 11 122 110] ?_
      exact AConf.rngC h
  · unfold Fevent_rows.b1 at h
    obtain ⟨l38, hv39, h⟩ := bind_some h
    refine AConf.go sys 0 111 [.e GRow.cells hx37, .b false GItem.cells ([(GItem.mk a0.Name x36.ID [] x36.Values)]), .a false GItem.cells_len hv39, .kp 11 [2, 3, 4, 5, 13, 14, 15] [100, 101, 113], .ren 11 113 110] ?_
    exact AConf.rngC h

-- triggerstore/delta.Rows
def Fdelta_Rows (k : Nat) (a0 : GDelta) (a1 : Int) : Option Int :=
  (if decide (a1 = 1) = true then (some (a0.Inserted.length : Int)) else (if decide (a1 = 2) = true then (some (a0.Updated.length : Int)) else (if decide (a1 = 3) = true then (some (a0.Deleted.length : Int)) else (some 0))))
theorem fdelta_Rows_ok {k : Nat} {a0 : GDelta} {a1 : Int} {r : Int} (h : Fdelta_Rows k a0 a1 = some r) :
    ACalls Tryz.prog gl 25 [(.agg (GDelta.pvs a0)), (pI a1)] [] (pI r) [] [] := by
  refine ACalls.enter sys Tryz.func25 fun w F ν => ?_
  unfold Fdelta_Rows at h
  rcases ite_or h with ⟨hb4, h⟩ | ⟨hb4, h⟩
  · obtain rfl := Option.some.inj h
    refine AConf.go sys 0 100 [.k hb4, .l GRow.cells a0.Inserted] ?_
    exact AConf.fin
  · refine AConf.go sys 0 100 [.k hb4] ?_
    rcases ite_or h with ⟨hb5, h⟩ | ⟨hb5, h⟩
    · obtain rfl := Option.some.inj h
      refine AConf.go sys 0 101 [.k hb5, .l GPair.cells a0.Updated] ?_
      exact AConf.fin
    · refine AConf.go sys 0 101 [.k hb5] ?_
      rcases ite_or h with ⟨hb6, h⟩ | ⟨hb6, h⟩
      · obtain rfl := Option.some.inj h
        refine AConf.go sys 0 101 [.k hb6, .l GRow.cells a0.Deleted] ?_
        exact AConf.fin
      · obtain rfl := Option.some.inj h
        refine AConf.go sys 0 101 [.k hb6] ?_
        exact AConf.fin

-- triggerstore/event.Items
def Fevent_Items.j11 (k : Nat) (s164 : List GItem) (x166 : GTrigger) (p168 : GDelta × Bool) (p170 : GSchema × Bool) (q180 : Bool) : Option (Go.Ab.Step (List GItem) (List GItem)) :=
  (if q180 = true then (some (.cont s164)) else ((Ftrigger_Matching k x166 p170.1 p168.1).bind fun p182 => (if x166.EachRow = true then ((Fevent_rows k x166 p182).bind fun p185 => ((app 72 s164 p185).bind fun l187 => (some (.cont l187)))) else ((Fdelta_Rows k p182 x166.Event).bind fun p189 => (if decide (0 < p189) = true then ((app 72 s164 ([(GItem.mk x166.Name 0 [] [])])).bind fun l192 => (some (.cont l192))) else (some (.cont s164)))))))
def Fevent_Items.b1 (k : Nat) (a1 : List GTable) (a2 : List GDelta) (x166 : GTrigger) (i165 : Nat) (s164 : List GItem) : Option (Go.Ab.Step (List GItem) (List GItem)) :=
  ((Fevent_Find k a2 x166.Table).bind fun p168 => ((Fscope_Source k a1 x166.Table).bind fun p170 => (if x166.Before = true then (Fevent_Items.j11 k s164 x166 p168 p170 true) else (if p168.2 = true then (Fevent_Items.j11 k s164 x166 p168 p170 (!p170.2)) else (Fevent_Items.j11 k s164 x166 p168 p170 true)))))
def Fevent_Items (k : Nat) (a0 : List GTrigger) (a1 : List GTable) (a2 : List GDelta) : Option (List GItem) :=
  ((loopL (Fevent_Items.b1 k a1 a2) a0 0 ([] : List GItem)).bind fun out => Out.el out (fun r0 => some r0) fun s196 => (some s196))
theorem fevent_Items_ok {k : Nat} {a0 : List GTrigger} {a1 : List GTable} {a2 : List GDelta} {r : List GItem} (h : Fevent_Items k a0 a1 a2 = some r) :
    ACalls Tryz.prog gl 7 [(pL GTrigger.cells a0), (pL GTable.cells a1), (pL GDelta.cells a2)] [] (pL GItem.cells r) [] [] := by
  refine ACalls.enter sys Tryz.func7 fun w F ν => ?_
  unfold Fevent_Items at h
  refine AConf.go sys 0 100 [.l GTrigger.cells a0, .ownR 8953 false 7 112 53 4] ?_
  refine AConf.range (bodyOf Tryz.f7) [1, 0, 1, 1] (fun (s164 : List GItem) => ([(1, some (pL GTable.cells a1)), (2, some (pL GDelta.cells a2)), (6, some pN), (7, some (.osl 112)), (14, some (pL GTrigger.cells a0)), (15, some (pI (a0.length : Int)))], [(112, some (.arr false 53 4 (s164.map GItem.cells)))])) (bR 0 GTrigger.cells) h (fun _ h => h.symm) (fun s196 h => ?_) (fun i165 x166 s164 o163 hx167 h hrt => ?_)
  · obtain rfl := Option.some.inj h
    refine AConf.go sys 0 118 [.frz 8960 112] ?_
    exact AConf.fin
  · unfold Fevent_Items.b1 at h
    obtain ⟨p168, hp169, h⟩ := bind_some h
    obtain ⟨p170, hp171, h⟩ := bind_some h
    refine AConf.go sys 1096 113 [.e GTrigger.cells hx167, .call (fevent_Find_ok hp169), .call (fscope_Source_ok hp171)] ?_
    refine AConf.join (ι := Bool) (bodyOf Tryz.f7) [0, 1, 1, 1, 9, 1, 0, 1, 1] (fun q180 => Fevent_Items.j11 k s164 x166 p168 p170 q180 = some o163) (fun (q180 : Bool) => ([(1, some (pL GTable.cells a1)), (2, some (pL GDelta.cells a2)), (6, some pN), (7, some (.osl 112)), (9, some (.ptr 113 0)), (10, some (.ptr 114 0)), (12, some (.ptr 115 0)), (14, some (pL GTrigger.cells a0)), (15, some (pI (a0.length : Int))), (16, some (pI (i165 : Int))), (43, some (pB q180))], [(112, some (.arr false 53 4 (s164.map GItem.cells))), (113, some (.var (GTrigger.pvs x166))), (114, some (.var (GDelta.pvs p168.1))), (115, some (.var (GSchema.pvs p170.1)))])) ?_ fun q180 h => ?_
    · rcases ite_or h with ⟨hb194, h⟩ | ⟨hb194, h⟩
      · refine AConf.go sys 0 118 [.kk 2 hb194, .kk 2 (rfl : true = _)] ?_
        exact AConf.joinN (i := true) h
      · refine AConf.go sys 0 118 [.kk 2 hb194] ?_
        rcases ite_or h with ⟨hb195, h⟩ | ⟨hb195, h⟩
        · refine AConf.go sys 0 118 [.kk 2 (notT hb195)] ?_
          exact AConf.joinN (i := (!p170.2)) h
        · refine AConf.go sys 0 118 [.kk 2 (notF hb195)] ?_
          exact AConf.joinN (i := true) h
    · unfold Fevent_Items.j11 at h
      rcases ite_or h with ⟨hb181, h⟩ | ⟨hb181, h⟩
      · refine AConf.go sys 0 116 [.k hb181] ?_
        exact AConf.rngC h
      · obtain ⟨p182, hp183, h⟩ := bind_some h
        refine AConf.go sys 0 116 [.k hb181, .call (ftrigger_Matching_ok hp183)] ?_
        rcases ite_or h with ⟨hb184, h⟩ | ⟨hb184, h⟩
        · obtain ⟨p185, hp186, h⟩ := bind_some h
          obtain ⟨l187, hv188, h⟩ := bind_some h
          refine AConf.go sys 0 116 [.k hb184, .call (fevent_rows_ok hp186), .a false GItem.cells_len hv188, .kp 6 [1, 2, 6, 7, 14, 15, 16] [116], .ren 6 116 112] ?_
          exact AConf.rngC h
        · obtain ⟨p189, hp190, h⟩ := bind_some h
          refine AConf.go sys 0 116 [.k hb184, .call (fdelta_Rows_ok hp190)] ?_
          rcases ite_or h with ⟨hb191, h⟩ | ⟨hb191, h⟩
          · obtain ⟨l192, hv193, h⟩ := bind_some h
            refine AConf.go sys 0 116 [.k hb191, .b false GItem.cells ([(GItem.mk x166.Name 0 [] [])]), .a false GItem.cells_len hv193, .kp 7 [1, 2, 6, 7, 14, 15, 16] [117], .ren 7 117 112] ?_
            exact AConf.rngC h
          · refine AConf.go sys 0 116 [.k hb191] ?_
            exact AConf.rngC h

-- triggerstore/triggerstoreworld.Schemas
def Fw_Schemas (k : Nat) : Option (List GSchema) :=
  (some ([(GSchema.mk ([108, 111, 103]) ([(GColumn.mk ([110]) 1 false false), (GColumn.mk ([115]) 3 false false)])), (GSchema.mk ([116]) ([(GColumn.mk ([105, 100]) 1 true true), (GColumn.mk ([110]) 1 false false), (GColumn.mk ([98]) 2 false false), (GColumn.mk ([115]) 3 false false)])), (GSchema.mk ([117]) ([(GColumn.mk ([105, 100]) 1 true true), (GColumn.mk ([110]) 1 true false), (GColumn.mk ([109]) 1 false false)]))]))
theorem fw_Schemas_ok {k : Nat} {r : List GSchema} (h : Fw_Schemas k = some r) :
    ACalls Tryz.prog gl 30 [] [] (.osl 50) [(50, some (.arr false 49 2 (r.map GSchema.cells)))] [50] := by
  refine ACalls.enter sys Tryz.func30 fun w F ν => ?_
  unfold Fw_Schemas at h
  obtain rfl := Option.some.inj h
  refine AConf.go sys 0 100 [.b false GColumn.cells ([(GColumn.mk ([110]) 1 false false), (GColumn.mk ([115]) 3 false false)]), .b false GColumn.cells ([(GColumn.mk ([105, 100]) 1 true true), (GColumn.mk ([110]) 1 false false), (GColumn.mk ([98]) 2 false false), (GColumn.mk ([115]) 3 false false)]), .b false GColumn.cells ([(GColumn.mk ([105, 100]) 1 true true), (GColumn.mk ([110]) 1 true false), (GColumn.mk ([109]) 1 false false)]), .b false GSchema.cells ([(GSchema.mk ([108, 111, 103]) ([(GColumn.mk ([110]) 1 false false), (GColumn.mk ([115]) 3 false false)])), (GSchema.mk ([116]) ([(GColumn.mk ([105, 100]) 1 true true), (GColumn.mk ([110]) 1 false false), (GColumn.mk ([98]) 2 false false), (GColumn.mk ([115]) 3 false false)])), (GSchema.mk ([117]) ([(GColumn.mk ([105, 100]) 1 true true), (GColumn.mk ([110]) 1 true false), (GColumn.mk ([109]) 1 false false)]))]), .ren 7143 103 50] ?_
  exact AConf.fin

-- triggerstore/triggerstoreworld.Schema
def Fw_Schema.b1 (a0 : List UInt8) (x25 : GSchema) (i24 : Nat) (s23 : Unit) : Option (Go.Ab.Step GSchema Unit) :=
  (if decide (x25.Name = a0) = true then (some (.ret x25)) else (some (.cont ())))
def Fw_Schema (k : Nat) (a0 : List UInt8) : Option GSchema :=
  ((Fw_Schemas k ).bind fun p15 => ((loopL (Fw_Schema.b1 a0) p15 0 ()).bind fun out => Out.el out (fun r0 => some r0) fun _ => (some (GSchema.mk [] []))))
theorem fw_Schema_ok {k : Nat} {a0 : List UInt8} {r : GSchema} (h : Fw_Schema k a0 = some r) :
    ACalls Tryz.prog gl 10 [(pS a0)] [] (.agg (GSchema.pvs r)) [] [] := by
  refine ACalls.enter sys Tryz.func10 fun w F ν => ?_
  unfold Fw_Schema at h
  obtain ⟨p15, hp16, h⟩ := bind_some h
  refine AConf.go sys 0 100 [.call (fw_Schemas_ok hp16), .l GSchema.cells p15] ?_
  refine AConf.range (bodyOf Tryz.f10) [1, 0, 1] (fun (_s : Unit) => ([(0, some (pS a0)), (2, some (.ptr 100 0)), (5, some (.osl 50)), (6, some (pI (p15.length : Int)))], [(50, some (.arr false 49 2 (p15.map GSchema.cells))), (100, some (.var [(pS []), pN]))])) (bO false 49 2 50 GSchema.cells) h (fun _ h => h.symm) (fun _ h => ?_) (fun i24 x25 _ o22 hx26 h hrt => ?_)
  · obtain rfl := Option.some.inj h
    refine AConf.go sys 0 103 [] ?_
    exact AConf.fin
  · unfold Fw_Schema.b1 at h
    refine AConf.go sys 0 102 [.e GSchema.cells hx26, .e GSchema.cells hx26] ?_
    rcases ite_or h with ⟨hb27, h⟩ | ⟨hb27, h⟩
    · obtain rfl := Option.some.inj h
      obtain rfl := hrt _ rfl
      refine AConf.go sys 0 103 [.k hb27] ?_
      refine AConf.rngR ?_
      exact AConf.fin
    · refine AConf.go sys 0 103 [.k hb27] ?_
      exact AConf.rngC h

-- triggerstore/triggerstorelaw22.known
def Flaw22_known.j0 (q14 : Bool) : Option Bool :=
  (some q14)
def Flaw22_known (k : Nat) : Option Bool :=
  ((Fw_Schema k ([108, 111, 103])).bind fun p1 => ((Fevent_Items k ([(GTrigger.mk ([97]) ([108, 111, 103]) false 1 [] true [] [] [] [] []), (GTrigger.mk ([98]) ([108, 111, 103]) false 1 [] false [] [] [] [] [])]) ([(GTable.mk p1 0 [])]) ([(GDelta.mk ([108, 111, 103]) ([(GRow.mk 4 ([(GValue.mk 0 0 []), (GValue.mk 0 0 [])])), (GRow.mk 5 ([(GValue.mk 0 0 []), (GValue.mk 0 0 [])]))]) [] [])])).bind fun p3 => (if decide ((p3.length : Int) = 3) = true then ((idx p3 1).bind fun x16 => (if decide (x16.Row = 5) = true then ((idx p3 2).bind fun x19 => (if decide (x19.Trigger = ([98])) = true then ((idx p3 2).bind fun x22 => (Flaw22_known.j0 (decide (x22.Row = 0)))) else (Flaw22_known.j0 false))) else (Flaw22_known.j0 false))) else (Flaw22_known.j0 false))))
theorem flaw22_known_ok {k : Nat} {r : Bool} (h : Flaw22_known k = some r) :
    ACalls Tryz.prog gl 11 [] [] (pB r) [] [] := by
  refine ACalls.enter sys Tryz.func11 fun w F ν => ?_
  unfold Flaw22_known at h
  obtain ⟨p1, hp2, h⟩ := bind_some h
  obtain ⟨p3, hp4, h⟩ := bind_some h
  refine AConf.go sys 8960 100 [.call (fw_Schema_ok hp2), .b false GValue.cells ([(GValue.mk 0 0 []), (GValue.mk 0 0 [])]), .b false GValue.cells ([(GValue.mk 0 0 []), (GValue.mk 0 0 [])]), .b false GRow.cells ([(GRow.mk 4 ([(GValue.mk 0 0 []), (GValue.mk 0 0 [])])), (GRow.mk 5 ([(GValue.mk 0 0 []), (GValue.mk 0 0 [])]))]), .b false GTrigger.cells ([(GTrigger.mk ([97]) ([108, 111, 103]) false 1 [] true [] [] [] [] []), (GTrigger.mk ([98]) ([108, 111, 103]) false 1 [] false [] [] [] [] [])]), .b false GTable.cells ([(GTable.mk p1 0 [])]), .b false GDelta.cells ([(GDelta.mk ([108, 111, 103]) ([(GRow.mk 4 ([(GValue.mk 0 0 []), (GValue.mk 0 0 [])])), (GRow.mk 5 ([(GValue.mk 0 0 []), (GValue.mk 0 0 [])]))]) [] [])]), .call (fevent_Items_ok hp4)] ?_
  refine AConf.join (ι := Bool) (bodyOf Tryz.f11) [1, 1, 1, 1] (fun q14 => Flaw22_known.j0 q14 = some r) (fun (q14 : Bool) => ([(0, some (pB q14))], [])) ?_ fun q14 h => ?_
  · refine AConf.go sys 0 108 [.l GItem.cells p3] ?_
    rcases ite_or h with ⟨hb15, h⟩ | ⟨hb15, h⟩
    · obtain ⟨x16, hv17, h⟩ := bind_some h
      refine AConf.go sys 0 108 [.kk 1 hb15, .x GItem.cells hv17, .kk 3 hb15] ?_
      rcases ite_or h with ⟨hb18, h⟩ | ⟨hb18, h⟩
      · obtain ⟨x19, hv20, h⟩ := bind_some h
        refine AConf.go sys 0 108 [.kk 1 hb18, .x GItem.cells hv20, .kk 3 hb18] ?_
        rcases ite_or h with ⟨hb21, h⟩ | ⟨hb21, h⟩
        · obtain ⟨x22, hv23, h⟩ := bind_some h
          refine AConf.go sys 0 108 [.kk 1 hb21, .x GItem.cells hv23, .kk 3 hb21] ?_
          exact AConf.joinN (i := (decide (x22.Row = 0))) h
        · refine AConf.go sys 0 108 [.kk 5 hb21] ?_
          exact AConf.joinN (i := false) h
      · refine AConf.go sys 0 108 [.kk 5 hb18, .kk 5 (rfl : false = _)] ?_
        exact AConf.joinN (i := false) h
    · refine AConf.go sys 0 108 [.kk 5 hb15, .kk 11 (rfl : false = _)] ?_
      exact AConf.joinN (i := false) h
  · unfold Flaw22_known.j0 at h
    obtain rfl := Option.some.inj h
    refine AConf.go sys 0 108 [] ?_
    exact AConf.fin

-- triggerstore/triggerstoreref8.Rows
def Fr8_Rows (k : Nat) (a0 : GDelta) (a1 : Int) : Option Int :=
  (if decide (a1 = 1) = true then (some (a0.Inserted.length : Int)) else (if decide (a1 = 2) = true then (some (a0.Updated.length : Int)) else (if decide (a1 = 3) = true then (some (a0.Deleted.length : Int)) else (some 0))))
theorem fr8_Rows_ok {k : Nat} {a0 : GDelta} {a1 : Int} {r : Int} (h : Fr8_Rows k a0 a1 = some r) :
    ACalls Tryz.prog gl 8 [(.agg (GDelta.pvs a0)), (pI a1)] [] (pI r) [] [] := by
  refine ACalls.enter sys Tryz.func8 fun w F ν => ?_
  unfold Fr8_Rows at h
  rcases ite_or h with ⟨hb4, h⟩ | ⟨hb4, h⟩
  · obtain rfl := Option.some.inj h
    refine AConf.go sys 0 100 [.k hb4, .l GRow.cells a0.Inserted] ?_
    exact AConf.fin
  · refine AConf.go sys 0 100 [.k hb4] ?_
    rcases ite_or h with ⟨hb5, h⟩ | ⟨hb5, h⟩
    · obtain rfl := Option.some.inj h
      refine AConf.go sys 0 101 [.k hb5, .l GPair.cells a0.Updated] ?_
      exact AConf.fin
    · refine AConf.go sys 0 101 [.k hb5] ?_
      rcases ite_or h with ⟨hb6, h⟩ | ⟨hb6, h⟩
      · obtain rfl := Option.some.inj h
        refine AConf.go sys 0 101 [.k hb6, .l GRow.cells a0.Deleted] ?_
        exact AConf.fin
      · obtain rfl := Option.some.inj h
        refine AConf.go sys 0 101 [.k hb6] ?_
        exact AConf.fin

-- triggerstore/triggerstoreref4.Digit
def Fr4_Digit.j0 (q2 : Bool) : Option Bool :=
  (some q2)
def Fr4_Digit (k : Nat) (a0 : Int) : Option Bool :=
  (if decide (48 ≤ a0) = true then (Fr4_Digit.j0 (decide (a0 ≤ 57))) else (Fr4_Digit.j0 false))
theorem fr4_Digit_ok {k : Nat} {a0 : Int} {r : Bool} (h : Fr4_Digit k a0 = some r) :
    ACalls Tryz.prog gl 111 [(pK .u8 a0)] [] (pB r) [] [] := by
  refine ACalls.enter sys Tryz.func111 fun w F ν => ?_
  unfold Fr4_Digit at h
  refine AConf.go sys 8001 100 [] ?_
  refine AConf.join (ι := Bool) (bodyOf Tryz.f111) [1] (fun q2 => Fr4_Digit.j0 q2 = some r) (fun (q2 : Bool) => ([(2, some (pB q2))], [])) ?_ fun q2 h => ?_
  · rcases ite_or h with ⟨hb3, h⟩ | ⟨hb3, h⟩
    · refine AConf.go sys 0 100 [.kk 2 hb3] ?_
      exact AConf.joinN (i := (decide (a0 ≤ 57))) h
    · refine AConf.go sys 0 100 [.kk 2 hb3] ?_
      exact AConf.joinN (i := false) h
  · unfold Fr4_Digit.j0 at h
    obtain rfl := Option.some.inj h
    refine AConf.go sys 0 100 [] ?_
    exact AConf.fin

-- triggerstore/triggerstoreref4.Letter
def Fr4_Letter.j0 (q2 : Bool) : Option Bool :=
  (some q2)
def Fr4_Letter (k : Nat) (a0 : Int) : Option Bool :=
  (if decide (97 ≤ a0) = true then (Fr4_Letter.j0 (decide (a0 ≤ 122))) else (Fr4_Letter.j0 false))
theorem fr4_Letter_ok {k : Nat} {a0 : Int} {r : Bool} (h : Fr4_Letter k a0 = some r) :
    ACalls Tryz.prog gl 110 [(pK .u8 a0)] [] (pB r) [] [] := by
  refine ACalls.enter sys Tryz.func110 fun w F ν => ?_
  unfold Fr4_Letter at h
  refine AConf.go sys 8001 100 [] ?_
  refine AConf.join (ι := Bool) (bodyOf Tryz.f110) [1] (fun q2 => Fr4_Letter.j0 q2 = some r) (fun (q2 : Bool) => ([(2, some (pB q2))], [])) ?_ fun q2 h => ?_
  · rcases ite_or h with ⟨hb3, h⟩ | ⟨hb3, h⟩
    · refine AConf.go sys 0 100 [.kk 2 hb3] ?_
      exact AConf.joinN (i := (decide (a0 ≤ 122))) h
    · refine AConf.go sys 0 100 [.kk 2 hb3] ?_
      exact AConf.joinN (i := false) h
  · unfold Fr4_Letter.j0 at h
    obtain rfl := Option.some.inj h
    refine AConf.go sys 0 100 [] ?_
    exact AConf.fin

-- triggerstore/triggerstoreref4.ValidName
def Fr4_ValidName.j13 (s301 : Int) (q342 : Bool) : Option (Go.Ab.Step Bool Int) :=
  (if q342 = true then (some (.ret false)) else (some (.cont (w64 (s301 + 1)))))
def Fr4_ValidName.b1 (k : Nat) (a0 : List UInt8) (s301 : Int) : Option (Go.Ab.Step Bool Int) :=
  (if decide (s301 < (a0.length : Int)) = true then ((idx a0 s301).bind fun v344 => ((Fr4_Letter k (v344.toNat : Int)).bind fun p346 => (if p346 = true then (Fr4_ValidName.j13 s301 false) else ((idx a0 s301).bind fun v349 => ((Fr4_Digit k (v349.toNat : Int)).bind fun p351 => (if p351 = true then (Fr4_ValidName.j13 s301 false) else ((idx a0 s301).bind fun v354 => (Fr4_ValidName.j13 s301 (!decide ((v354.toNat : Int) = 95)))))))))) else (some (.brk s301)))
def Fr4_ValidName.j1 (k : Nat) (a0 : List UInt8) (q21 : Bool) : Option Bool :=
  (if q21 = true then (some false) else ((loopN (Fr4_ValidName.b1 k a0) k 0).bind fun out => Out.el out (fun r0 => some r0) fun s356 => (some true)))
def Fr4_ValidName (k : Nat) (a0 : List UInt8) : Option Bool :=
  (if decide ((a0.length : Int) < 1) = true then (Fr4_ValidName.j1 k a0 true) else (if decide (12 < (a0.length : Int)) = true then (Fr4_ValidName.j1 k a0 true) else ((idx a0 0).bind fun v359 => ((Fr4_Letter k (v359.toNat : Int)).bind fun p361 => (Fr4_ValidName.j1 k a0 (!p361))))))
theorem fr4_ValidName_ok {k : Nat} {a0 : List UInt8} {r : Bool} (h : Fr4_ValidName k a0 = some r) :
    ACalls Tryz.prog gl 83 [(pS a0)] [] (pB r) [] [] := by
  refine ACalls.enter sys Tryz.func83 fun w F ν => ?_
  unfold Fr4_ValidName at h
  refine AConf.go sys 7142 100 [] ?_
  refine AConf.join (ι := Bool) (bodyOf Tryz.f83) [0, 1] (fun q21 => Fr4_ValidName.j1 k a0 q21 = some r) (fun (q21 : Bool) => ([(0, some (pS a0)), (2, some (pB false)), (17, some (pB q21))], [])) ?_ fun q21 h => ?_
  · rcases ite_or h with ⟨hb357, h⟩ | ⟨hb357, h⟩
    · refine AConf.go sys 0 100 [.kk 3 hb357, .kk 4 (rfl : true = _)] ?_
      exact AConf.joinN (i := true) h
    · refine AConf.go sys 0 100 [.kk 3 hb357] ?_
      rcases ite_or h with ⟨hb358, h⟩ | ⟨hb358, h⟩
      · refine AConf.go sys 0 100 [.kk 4 hb358] ?_
        exact AConf.joinN (i := true) h
      · obtain ⟨v359, hv360, h⟩ := bind_some h
        obtain ⟨p361, hp362, h⟩ := bind_some h
        refine AConf.go sys 0 100 [.kk 1 hb358, .c hv360, .k hb358, .call (fr4_Letter_ok hp362), .kk 1 hb358] ?_
        exact AConf.joinN (i := (!p361)) h
  · unfold Fr4_ValidName.j1 at h
    rcases ite_or h with ⟨hb22, h⟩ | ⟨hb22, h⟩
    · obtain rfl := Option.some.inj h
      refine AConf.go sys 0 100 [.k hb22] ?_
      exact AConf.fin
    · refine AConf.go sys 0 100 [.k hb22] ?_
      refine AConf.rounds (bodyOf Tryz.f83) [1, 0, 1, 1] (fun (s301 : Int) => ([(0, some (pS a0)), (2, some (pB false)), (3, some (pI s301))], [])) h (fun _ h => h.symm) (fun s356 h => ?_) (fun s301 o300 h hrt => ?_)
      · obtain rfl := Option.some.inj h
        refine AConf.go sys 0 100 [] ?_
        exact AConf.fin
      · unfold Fr4_ValidName.b1 at h
        rcases ite_or h with ⟨hb303, h⟩ | ⟨hb303, h⟩
        · refine AConf.go sys 8214 100 [.k hb303] ?_
          refine AConf.join (ι := Bool) (bodyOf Tryz.f83) [3, 0, 1, 8, 1, 0, 1, 1] (fun q342 => Fr4_ValidName.j13 s301 q342 = some o300) (fun (q342 : Bool) => ([(0, some (pS a0)), (2, some (pB false)), (3, some (pI s301)), (41, some (pB q342))], [])) ?_ fun q342 h => ?_
          · obtain ⟨v344, hv345, h⟩ := bind_some h
            obtain ⟨p346, hp347, h⟩ := bind_some h
            refine AConf.go sys 0 100 [.c hv345, .call (fr4_Letter_ok hp347)] ?_
            rcases ite_or h with ⟨hb348, h⟩ | ⟨hb348, h⟩
            · refine AConf.go sys 0 100 [.kk 5 (notT hb348), .kk 4 (rfl : false = _)] ?_
              exact AConf.joinN (i := false) h
            · obtain ⟨v349, hv350, h⟩ := bind_some h
              obtain ⟨p351, hp352, h⟩ := bind_some h
              refine AConf.go sys 0 100 [.kk 2 (notF hb348), .c hv350, .k (notF hb348), .call (fr4_Digit_ok hp352), .kk 1 (notF hb348)] ?_
              rcases ite_or h with ⟨hb353, h⟩ | ⟨hb353, h⟩
              · refine AConf.go sys 0 100 [.kk 4 (notT hb353)] ?_
                exact AConf.joinN (i := false) h
              · obtain ⟨v354, hv355, h⟩ := bind_some h
                refine AConf.go sys 0 100 [.kk 2 (notF hb353), .c hv355, .kk 1 (notF hb353)] ?_
                exact AConf.joinN (i := (!decide ((v354.toNat : Int) = 95))) h
          · unfold Fr4_ValidName.j13 at h
            rcases ite_or h with ⟨hb343, h⟩ | ⟨hb343, h⟩
            · obtain rfl := Option.some.inj h
              obtain rfl := hrt _ rfl
              refine AConf.go sys 0 100 [.k hb343] ?_
              refine AConf.stpR ?_
              exact AConf.fin
            · refine AConf.go sys 0 100 [.k hb343] ?_
              exact AConf.stpC h
        · refine AConf.go sys 0 100 [.k hb303] ?_
          exact AConf.stpB h

-- triggerstore/triggerstoreref4.Valid
def Fr4_Valid.j13 (s285 : Int) (x287 : GColumn) (q324 : Bool) : Option (Go.Ab.Step Bool Int) :=
  (if q324 = true then (some (.ret false)) else (if x287.Key = true then (some (.cont (w64 (s285 + 1)))) else (some (.cont s285))))
def Fr4_Valid.b1 (k : Nat) (a0 : GSchema) (x287 : GColumn) (i286 : Nat) (s285 : Int) : Option (Go.Ab.Step Bool Int) :=
  ((Fr4_ValidName k x287.Name).bind fun p327 => (if p327 = true then (if decide (x287.Typ < 1) = true then (Fr4_Valid.j13 s285 x287 true) else (if decide (3 < x287.Typ) = true then (Fr4_Valid.j13 s285 x287 true) else (if x287.Key = true then (if x287.NotNull = true then ((Fr4_Find k a0 x287.Name).bind fun p334 => (Fr4_Valid.j13 s285 x287 (!decide (p334 = (i286 : Int))))) else (Fr4_Valid.j13 s285 x287 true)) else ((Fr4_Find k a0 x287.Name).bind fun p336 => (Fr4_Valid.j13 s285 x287 (!decide (p336 = (i286 : Int)))))))) else (Fr4_Valid.j13 s285 x287 true)))
def Fr4_Valid.j1 (k : Nat) (a0 : GSchema) (q15 : Bool) : Option Bool :=
  (if q15 = true then (some false) else ((loopL (Fr4_Valid.b1 k a0) a0.Columns 0 0).bind fun out => Out.el out (fun r0 => some r0) fun s338 => (some (decide (s338 ≤ 1)))))
def Fr4_Valid (k : Nat) (a0 : GSchema) : Option Bool :=
  ((Fr4_ValidName k a0.Name).bind fun p339 => (if p339 = true then (if decide ((a0.Columns.length : Int) < 1) = true then (Fr4_Valid.j1 k a0 true) else (Fr4_Valid.j1 k a0 (decide (6 < (a0.Columns.length : Int))))) else (Fr4_Valid.j1 k a0 true)))
theorem fr4_Valid_ok {k : Nat} {a0 : GSchema} {r : Bool} (h : Fr4_Valid k a0 = some r) :
    ACalls Tryz.prog gl 92 [(.agg (GSchema.pvs a0))] [] (pB r) [] [] := by
  refine ACalls.enter sys Tryz.func92 fun w F ν => ?_
  unfold Fr4_Valid at h
  refine AConf.go sys 7142 100 [] ?_
  refine AConf.join (ι := Bool) (bodyOf Tryz.f92) [0, 1] (fun q15 => Fr4_Valid.j1 k a0 q15 = some r) (fun (q15 : Bool) => ([(1, some (.ptr 100 0)), (2, some (pB false)), (21, some (pB q15))], [(100, some (.var (GSchema.pvs a0)))])) ?_ fun q15 h => ?_
  · obtain ⟨p339, hp340, h⟩ := bind_some h
    refine AConf.go sys 0 104 [.call (fr4_ValidName_ok hp340)] ?_
    rcases ite_or h with ⟨hb341, h⟩ | ⟨hb341, h⟩
    · refine AConf.go sys 0 104 [.kk 2 (notT hb341), .l GColumn.cells a0.Columns, .kk 1 (notT hb341)] ?_
      rcases ite_or h with ⟨hb342, h⟩ | ⟨hb342, h⟩
      · refine AConf.go sys 0 104 [.kk 4 hb342] ?_
        exact AConf.joinN (i := true) h
      · refine AConf.go sys 0 104 [.kk 2 hb342, .l GColumn.cells a0.Columns, .kk 1 hb342] ?_
        exact AConf.joinN (i := (decide (6 < (a0.Columns.length : Int)))) h
    · refine AConf.go sys 0 104 [.kk 4 (notF hb341), .kk 4 (rfl : true = _)] ?_
      exact AConf.joinN (i := true) h
  · unfold Fr4_Valid.j1 at h
    rcases ite_or h with ⟨hb16, h⟩ | ⟨hb16, h⟩
    · obtain rfl := Option.some.inj h
      refine AConf.go sys 0 101 [.k hb16] ?_
      exact AConf.fin
    · refine AConf.go sys 0 101 [.k hb16, .l GColumn.cells a0.Columns] ?_
      refine AConf.range (bodyOf Tryz.f92) [1, 0, 1, 1, 1] (fun (s285 : Int) => ([(1, some (.ptr 100 0)), (2, some (pB false)), (3, some (pI s285)), (23, some (pL GColumn.cells a0.Columns)), (24, some (pI (a0.Columns.length : Int)))], [(100, some (.var (GSchema.pvs a0)))])) (bR 23 GColumn.cells) h (fun _ h => h.symm) (fun s338 h => ?_) (fun i286 x287 s285 o284 hx288 h hrt => ?_)
      · obtain rfl := Option.some.inj h
        refine AConf.go sys 0 104 [] ?_
        exact AConf.fin
      · unfold Fr4_Valid.b1 at h
        refine AConf.go sys 10642 103 [.e GColumn.cells hx288] ?_
        refine AConf.join (ι := Bool) (bodyOf Tryz.f92) [0, 1, 9, 1, 0, 1, 1, 1] (fun q324 => Fr4_Valid.j13 s285 x287 q324 = some o284) (fun (q324 : Bool) => ([(1, some (.ptr 100 0)), (2, some (pB false)), (3, some (pI s285)), (5, some (.ptr 103 0)), (23, some (pL GColumn.cells a0.Columns)), (24, some (pI (a0.Columns.length : Int))), (25, some (pI (i286 : Int))), (60, some (pB q324))], [(100, some (.var (GSchema.pvs a0))), (103, some (.var (GColumn.pvs x287)))])) ?_ fun q324 h => ?_
        · obtain ⟨p327, hp328, h⟩ := bind_some h
          refine AConf.go sys 0 104 [.call (fr4_ValidName_ok hp328)] ?_
          rcases ite_or h with ⟨hb329, h⟩ | ⟨hb329, h⟩
          · refine AConf.go sys 0 104 [.kk 3 (notT hb329)] ?_
            rcases ite_or h with ⟨hb330, h⟩ | ⟨hb330, h⟩
            · refine AConf.go sys 0 104 [.kk 3 hb330, .kk 11 (rfl : true = _)] ?_
              exact AConf.joinN (i := true) h
            · refine AConf.go sys 0 104 [.kk 3 hb330] ?_
              rcases ite_or h with ⟨hb331, h⟩ | ⟨hb331, h⟩
              · refine AConf.go sys 0 104 [.kk 4 hb331, .kk 6 (rfl : true = _)] ?_
                exact AConf.joinN (i := true) h
              · refine AConf.go sys 0 104 [.kk 2 hb331] ?_
                rcases ite_or h with ⟨hb332, h⟩ | ⟨hb332, h⟩
                · refine AConf.go sys 0 104 [.kk 2 hb332, .k hb331, .k hb332, .k hb331] ?_
                  rcases ite_or h with ⟨hb333, h⟩ | ⟨hb333, h⟩
                  · obtain ⟨p334, hp335, h⟩ := bind_some h
                    refine AConf.go sys 0 104 [.kk 3 (notT hb333), .call (fr4_Find_ok hp335), .kk 2 (notT hb333)] ?_
                    exact AConf.joinN (i := (!decide (p334 = (i286 : Int)))) h
                  · refine AConf.go sys 0 104 [.kk 6 (notF hb333)] ?_
                    exact AConf.joinN (i := true) h
                · obtain ⟨p336, hp337, h⟩ := bind_some h
                  refine AConf.go sys 0 104 [.kk 2 hb332, .k hb331, .k hb332, .k hb331, .kk 3 (rfl : false = _), .call (fr4_Find_ok hp337), .kk 2 (rfl : false = _)] ?_
                  exact AConf.joinN (i := (!decide (p336 = (i286 : Int)))) h
          · refine AConf.go sys 0 104 [.kk 3 (notF hb329), .kk 15 (rfl : true = _)] ?_
            exact AConf.joinN (i := true) h
        · unfold Fr4_Valid.j13 at h
          rcases ite_or h with ⟨hb325, h⟩ | ⟨hb325, h⟩
          · obtain rfl := Option.some.inj h
            obtain rfl := hrt _ rfl
            refine AConf.go sys 0 104 [.k hb325] ?_
            refine AConf.rngR ?_
            exact AConf.fin
          · refine AConf.go sys 0 104 [.k hb325] ?_
            rcases ite_or h with ⟨hb326, h⟩ | ⟨hb326, h⟩
            · refine AConf.go sys 0 104 [.k hb326] ?_
              exact AConf.rngC h
            · refine AConf.go sys 0 104 [.k hb326] ?_
              exact AConf.rngC h

-- triggerstore/triggerstoreref6.New
def Fr6_New (k : Nat) (a0 : GSchema) : Option (GTable × Int) :=
  ((Fr4_Valid k a0).bind fun p4 => (if p4 = true then ((app 32 ([] : List GColumn) a0.Columns).bind fun l7 => (some ((GTable.mk (GSchema.mk a0.Name l7) 1 []), 0))) else (some ((GTable.mk (GSchema.mk [] []) 0 []), 17))))
theorem fr6_New_ok {k : Nat} {a0 : GSchema} {r : GTable × Int} (h : Fr6_New k a0 = some r) :
    ACalls Tryz.prog gl 46 [(.agg (GSchema.pvs a0))] [] (.tup [(.agg (GTable.pvs r.1)), (pI r.2)]) [] [] := by
  refine ACalls.enter sys Tryz.func46 fun w F ν => ?_
  unfold Fr6_New at h
  obtain ⟨p4, hp5, h⟩ := bind_some h
  refine AConf.go sys 0 100 [.call (fr4_Valid_ok hp5)] ?_
  rcases ite_or h with ⟨hb6, h⟩ | ⟨hb6, h⟩
  · obtain ⟨l7, hv8, h⟩ := bind_some h
    obtain rfl := Option.some.inj h
    refine AConf.go sys 0 102 [.k (notT hb6), .a false GColumn.cells_len hv8, .frz 8960 102] ?_
    exact AConf.fin
  · obtain rfl := Option.some.inj h
    refine AConf.go sys 0 102 [.k (notF hb6)] ?_
    exact AConf.fin

-- triggerstore/triggerstoreworld.tablesOf
def Fw_tablesOf.b1 (k : Nat) (x52 : GSchema) (i51 : Nat) (s50 : List GTable) : Option (Go.Ab.Step (List GTable) (List GTable)) :=
  ((Fr6_New k x52).bind fun p54 => ((app 72 s50 ([p54.1])).bind fun l56 => (some (.cont l56))))
def Fw_tablesOf (k : Nat) (a0 : List GTable) : Option (List GTable) :=
  (if decide (0 < (a0.length : Int)) = true then (some a0) else ((Fw_Schemas k ).bind fun p31 => ((loopL (Fw_tablesOf.b1 k) p31 0 ([] : List GTable)).bind fun out => Out.el out (fun r0 => some r0) fun s58 => (some s58))))
theorem fw_tablesOf_ok {k : Nat} {a0 : List GTable} {r : List GTable} (h : Fw_tablesOf k a0 = some r) :
    ACalls Tryz.prog gl 15 [(pL GTable.cells a0)] [] (pL GTable.cells r) [] [] := by
  refine ACalls.enter sys Tryz.func15 fun w F ν => ?_
  unfold Fw_tablesOf at h
  refine AConf.go sys 0 100 [.l GTable.cells a0] ?_
  rcases ite_or h with ⟨hb2, h⟩ | ⟨hb2, h⟩
  · obtain rfl := Option.some.inj h
    refine AConf.go sys 0 100 [.k hb2] ?_
    exact AConf.fin
  · obtain ⟨p31, hp32, h⟩ := bind_some h
    refine AConf.go sys 0 100 [.k hb2, .call (fw_Schemas_ok hp32), .l GSchema.cells p31, .ownR 3876 false 3 110 68 4] ?_
    refine AConf.range (bodyOf Tryz.f15) [1, 0, 1, 1, 1] (fun (s50 : List GTable) => ([(2, some pN), (3, some (.osl 110)), (12, some (.osl 50)), (13, some (pI (p31.length : Int)))], [(110, some (.arr false 68 4 (s50.map GTable.cells))), (50, some (.arr false 49 2 (p31.map GSchema.cells)))])) (bO false 49 2 50 GSchema.cells) h (fun _ h => h.symm) (fun s58 h => ?_) (fun i51 x52 s50 o49 hx53 h hrt => ?_)
    · obtain rfl := Option.some.inj h
      refine AConf.go sys 0 115 [.frz 3883 110] ?_
      exact AConf.fin
    · unfold Fw_tablesOf.b1 at h
      obtain ⟨p54, hp55, h⟩ := bind_some h
      obtain ⟨l56, hv57, h⟩ := bind_some h
      refine AConf.go sys 0 111 [.e GSchema.cells hx53, .e GSchema.cells hx53, .call (fr6_New_ok hp55), .b false GTable.cells ([p54.1]), .a false GTable.cells_len hv57, .kp 5 [2, 3, 12, 13, 14] [50, 114], .ren 5 114 110] ?_
      exact AConf.rngC h

-- triggerstore/triggerstoreref18.before
def Fr18_before.j0 (q3 : Bool) : Option Bool :=
  (some q3)
def Fr18_before (k : Nat) (a0 : GLink) (a1 : GLink) : Option Bool :=
  (if Op.bytesLess a0.First a1.First = true then (Fr18_before.j0 true) else (if decide (a0.First = a1.First) = true then (Fr18_before.j0 (Op.bytesLess a0.Second a1.Second)) else (Fr18_before.j0 false)))
theorem fr18_before_ok {k : Nat} {a0 : GLink} {a1 : GLink} {r : Bool} (h : Fr18_before k a0 a1 = some r) :
    ACalls Tryz.prog gl 93 [(.agg (GLink.pvs a0)), (.agg (GLink.pvs a1))] [] (pB r) [] [] := by
  refine ACalls.enter sys Tryz.func93 fun w F ν => ?_
  unfold Fr18_before at h
  refine AConf.go sys 8001 100 [] ?_
  refine AConf.join (ι := Bool) (bodyOf Tryz.f93) [1] (fun q3 => Fr18_before.j0 q3 = some r) (fun (q3 : Bool) => ([(4, some (pB q3))], [])) ?_ fun q3 h => ?_
  · rcases ite_or h with ⟨hb4, h⟩ | ⟨hb4, h⟩
    · refine AConf.go sys 0 102 [.kk 7 hb4] ?_
      exact AConf.joinN (i := true) h
    · refine AConf.go sys 0 102 [.kk 5 hb4] ?_
      rcases ite_or h with ⟨hb5, h⟩ | ⟨hb5, h⟩
      · refine AConf.go sys 0 102 [.kk 4 hb5, .k hb4, .k hb5, .k hb4] ?_
        exact AConf.joinN (i := (Op.bytesLess a0.Second a1.Second)) h
      · refine AConf.go sys 0 102 [.kk 4 hb5, .k hb4, .k hb5, .k hb4] ?_
        exact AConf.joinN (i := false) h
  · unfold Fr18_before.j0 at h
    obtain rfl := Option.some.inj h
    refine AConf.go sys 0 102 [] ?_
    exact AConf.fin

-- triggerstore/triggerstoreref18.insert
def Fr18_insert.j12 (a1 : GLink) (x134 : GLink) (q146 : (List GLink) × Bool) : Option (Go.Ab.Step (List GLink) ((List GLink) × Bool)) :=
  (if decide (x134 = a1) = true then (some (.cont (q146.1, q146.2))) else ((app 32 q146.1 ([x134])).bind fun l148 => (some (.cont (l148, q146.2)))))
def Fr18_insert.j13 (a1 : GLink) (s132 : (List GLink) × Bool) (x134 : GLink) (q153 : Bool) : Option (Go.Ab.Step (List GLink) ((List GLink) × Bool)) :=
  (if q153 = true then ((app 32 s132.1 ([a1])).bind fun l155 => (Fr18_insert.j12 a1 x134 (l155, true))) else (Fr18_insert.j12 a1 x134 (s132.1, s132.2)))
def Fr18_insert.b1 (k : Nat) (a1 : GLink) (x134 : GLink) (i133 : Nat) (s132 : (List GLink) × Bool) : Option (Go.Ab.Step (List GLink) ((List GLink) × Bool)) :=
  (if s132.2 = true then (Fr18_insert.j13 a1 s132 x134 false) else ((Fr18_before k x134 a1).bind fun p158 => (Fr18_insert.j13 a1 s132 x134 (!p158))))
def Fr18_insert.j14 (q164 : List GLink) : Option (List GLink) :=
  (some q164)
def Fr18_insert (k : Nat) (a0 : List GLink) (a1 : GLink) : Option (List GLink) :=
  ((loopL (Fr18_insert.b1 k a1) a0 0 (([] : List GLink), false)).bind fun out => Out.el out (fun r0 => some r0) fun s160 => (if s160.2 = true then (Fr18_insert.j14 s160.1) else ((app 32 s160.1 ([a1])).bind fun l166 => (Fr18_insert.j14 l166))))
theorem fr18_insert_ok {k : Nat} {a0 : List GLink} {a1 : GLink} {r : List GLink} (h : Fr18_insert k a0 a1 = some r) :
    ACalls Tryz.prog gl 48 [(pL GLink.cells a0), (.agg (GLink.pvs a1))] [] (pL GLink.cells r) [] [] := by
  refine ACalls.enter sys Tryz.func48 fun w F ν => ?_
  unfold Fr18_insert at h
  refine AConf.go sys 0 100 [.l GLink.cells a0, .ownR 3876 false 5 118 127 2] ?_
  refine AConf.range (bodyOf Tryz.f48) [1, 0, 1, 1, 1] (fun (s132 : (List GLink) × Bool) => ([(3, some (.ptr 100 0)), (4, some pN), (5, some (.osl 118)), (6, some (pB s132.2)), (9, some (pL GLink.cells a0)), (10, some (pI (a0.length : Int)))], [(118, some (.arr false 127 2 (s132.1.map GLink.cells))), (100, some (.var (GLink.pvs a1)))])) (bR 0 GLink.cells) h (fun _ h => h.symm) (fun s160 h => ?_) (fun i133 x134 s132 o131 hx135 h hrt => ?_)
  · refine AConf.go sys 8960 126 [] ?_
    refine AConf.join (ι := List GLink) (bodyOf Tryz.f48) [1, 1, 1, 1] (fun q164 => Fr18_insert.j14 q164 = some r) (fun (q164 : List GLink) => ([(4, some pN), (5, some (.osl 118))], [(118, some (.arr false 127 2 (q164.map GLink.cells)))])) ?_ fun q164 h => ?_
    · rcases ite_or h with ⟨hb165, h⟩ | ⟨hb165, h⟩
      · refine AConf.go sys 0 128 [.k (notT hb165)] ?_
        exact AConf.joinN (i := s160.1) h
      · obtain ⟨l166, hv167, h⟩ := bind_some h
        refine AConf.go sys 0 128 [.k (notF hb165), .b false GLink.cells ([a1]), .a false GLink.cells_len hv167, .kp 5 [4, 5] [129], .ren 5 129 118] ?_
        exact AConf.joinN (i := l166) h
    · unfold Fr18_insert.j14 at h
      obtain rfl := Option.some.inj h
      refine AConf.go sys 0 128 [.frz 8236 118] ?_
      exact AConf.fin
  · unfold Fr18_insert.b1 at h
    refine AConf.go sys 8501 119 [.e GLink.cells hx135] ?_
    refine AConf.join (ι := (List GLink) × Bool) (bodyOf Tryz.f48) [1, 9, 1, 0, 1, 1, 1] (fun q146 => Fr18_insert.j12 a1 x134 q146 = some o131) (fun (q146 : (List GLink) × Bool) => ([(3, some (.ptr 100 0)), (4, some pN), (5, some (.osl 121)), (6, some (pB q146.2)), (8, some (.ptr 119 0)), (9, some (pL GLink.cells a0)), (10, some (pI (a0.length : Int))), (11, some (pI (i133 : Int)))], [(121, some (.arr false 127 2 (q146.1.map GLink.cells))), (100, some (.var (GLink.pvs a1))), (119, some (.var (GLink.pvs x134)))])) ?_ fun q146 h => ?_
    · refine AConf.go sys 10644 124 [] ?_
      refine AConf.join (ι := Bool) (bodyOf Tryz.f48) [2, 1, 9, 1, 0, 1, 1, 1] (fun q153 => Fr18_insert.j13 a1 s132 x134 q153 = some o131) (fun (q153 : Bool) => ([(3, some (.ptr 100 0)), (4, some pN), (5, some (.osl 118)), (6, some (pB s132.2)), (8, some (.ptr 119 0)), (9, some (pL GLink.cells a0)), (10, some (pI (a0.length : Int))), (11, some (pI (i133 : Int))), (22, some (pB q153))], [(118, some (.arr false 127 2 (s132.1.map GLink.cells))), (100, some (.var (GLink.pvs a1))), (119, some (.var (GLink.pvs x134)))])) ?_ fun q153 h => ?_
      · rcases ite_or h with ⟨hb157, h⟩ | ⟨hb157, h⟩
        · refine AConf.go sys 0 126 [.kk 4 (notT hb157)] ?_
          exact AConf.joinN (i := false) h
        · obtain ⟨p158, hp159, h⟩ := bind_some h
          refine AConf.go sys 0 126 [.kk 2 (notF hb157), .call (fr18_before_ok hp159), .kk 1 (notF hb157)] ?_
          exact AConf.joinN (i := (!p158)) h
      · unfold Fr18_insert.j13 at h
        rcases ite_or h with ⟨hb154, h⟩ | ⟨hb154, h⟩
        · obtain ⟨l155, hv156, h⟩ := bind_some h
          refine AConf.go sys 0 124 [.k hb154, .b false GLink.cells ([a1]), .a false GLink.cells_len hv156, .kp 1 [3, 4, 5, 6, 8, 9, 10, 11] [100, 119, 125], .ren 1 125 121] ?_
          exact AConf.joinN (i := (l155, true)) h
        · refine AConf.go sys 0 124 [.k hb154, .kp 10972 [3, 4, 5, 6, 8, 9, 10, 11] [100, 118, 119], .ren 10972 118 121] ?_
          exact AConf.joinN (i := (s132.1, s132.2)) h
    · unfold Fr18_insert.j12 at h
      refine AConf.go sys 0 122 [.eq eg127 (eq127 x134 a1)] ?_
      rcases ite_or h with ⟨hb147, h⟩ | ⟨hb147, h⟩
      · refine AConf.go sys 0 122 [.k (notT hb147), .kp 10923 [3, 4, 5, 6, 9, 10, 11] [100, 121], .ren 10923 121 118] ?_
        exact AConf.rngC h
      · obtain ⟨l148, hv149, h⟩ := bind_some h
        refine AConf.go sys 0 122 [.k (notF hb147), .b false GLink.cells ([x134]), .a false GLink.cells_len hv149, .kp 5 [3, 4, 5, 6, 9, 10, 11] [100, 123], .ren 5 123 118] ?_
        exact AConf.rngC h

-- triggerstore/triggerstoreref18.closure
def Fr18_closure.b22 (k : Nat) (x481 : GLink) (x500 : GLink) (i499 : Nat) (s498 : List GLink) : Option (Go.Ab.Step (List GLink) (List GLink)) :=
  (if decide (x481.Second = x500.First) = true then ((Fr18_insert k s498 (GLink.mk x481.First x500.Second)).bind fun p503 => (some (.cont p503))) else (some (.cont s498)))
def Fr18_closure.b23 (k : Nat) (s340 : List GLink) (x481 : GLink) (i480 : Nat) (s479 : List GLink) : Option (Go.Ab.Step (List GLink) (List GLink)) :=
  ((loopL (Fr18_closure.b22 k x481) s340 0 s479).bind fun out => Out.el out (fun r0 => some (.ret r0)) fun s505 => (some (.cont s505)))
def Fr18_closure.b24 (k : Nat) (s340 : List GLink) : Option (Go.Ab.Step (List GLink) (List GLink)) :=
  ((loopL (Fr18_closure.b23 k s340) s340 0 s340).bind fun out => Out.el out (fun r0 => some (.ret r0)) fun s506 => (if decide ((s506.length : Int) = (s340.length : Int)) = true then (some (.ret s506)) else (some (.cont s506))))
def Fr18_closure (k : Nat) (a0 : List GLink) : Option (List GLink) :=
  ((loopN (Fr18_closure.b24 k) k a0).bind fun out => Out.el out (fun r0 => some r0) fun s509 => none)
theorem fr18_closure_ok {k : Nat} {a0 : List GLink} {r : List GLink} (h : Fr18_closure k a0 = some r) :
    ACalls Tryz.prog gl 49 [(pL GLink.cells a0)] [] (pL GLink.cells r) [] [] := by
  refine ACalls.enter sys Tryz.func49 fun w F ν => ?_
  unfold Fr18_closure at h
  refine AConf.go sys 0 100 [] ?_
  refine AConf.rounds (bodyOf Tryz.f49) [1] (fun (s340 : List GLink) => ([(0, some (pL GLink.cells s340)), (2, some pN)], [])) h (fun _ h => h.symm) (fun s509 h => ?_) (fun s340 o339 h hrt => ?_)
  · cases h
  · unfold Fr18_closure.b24 at h
    refine AConf.go sys 0 124 [.l GLink.cells s340] ?_
    refine AConf.range (bodyOf Tryz.f49) [1, 0, 1, 3, 8, 1] (fun (s479 : List GLink) => ([(0, some (pL GLink.cells s340)), (2, some pN), (3, some (pL GLink.cells s479)), (9, some (pL GLink.cells s340)), (10, some (pI (s340.length : Int)))], [])) (bR 0 GLink.cells) h hrt (fun s506 h => ?_) (fun i480 x481 s479 o478 hx482 h hrt => ?_)
    · refine AConf.go sys 0 136 [.l GLink.cells s506, .l GLink.cells s340] ?_
      rcases ite_or h with ⟨hb508, h⟩ | ⟨hb508, h⟩
      · obtain rfl := Option.some.inj h
        obtain rfl := hrt _ rfl
        refine AConf.go sys 0 136 [.k hb508] ?_
        refine AConf.stpR ?_
        exact AConf.fin
      · refine AConf.go sys 0 136 [.k hb508] ?_
        exact AConf.stpC h
    · unfold Fr18_closure.b23 at h
      refine AConf.go sys 0 132 [.e GLink.cells hx482, .l GLink.cells s340] ?_
      refine AConf.range (bodyOf Tryz.f49) [1, 1, 9, 1, 0, 1, 3, 8, 1] (fun (s498 : List GLink) => ([(0, some (pL GLink.cells s340)), (2, some pN), (3, some (pL GLink.cells s498)), (5, some (.ptr 132 0)), (9, some (pL GLink.cells s340)), (10, some (pI (s340.length : Int))), (11, some (pI (i480 : Int))), (15, some (pL GLink.cells s340)), (16, some (pI (s340.length : Int)))], [(132, some (.var (GLink.pvs x481)))])) (bR 0 GLink.cells) h hrt (fun s505 h => ?_) (fun i499 x500 s498 o497 hx501 h hrt => ?_)
      · refine AConf.go sys 0 136 [] ?_
        exact AConf.rngC h
      · unfold Fr18_closure.b22 at h
        refine AConf.go sys 0 135 [.e GLink.cells hx501] ?_
        rcases ite_or h with ⟨hb502, h⟩ | ⟨hb502, h⟩
        · obtain ⟨p503, hp504, h⟩ := bind_some h
          refine AConf.go sys 0 136 [.k hb502, .call (fr18_insert_ok hp504)] ?_
          exact AConf.rngC h
        · refine AConf.go sys 0 136 [.k hb502] ?_
          exact AConf.rngC h

-- triggerstore/triggerstoreref18.Precedes
def Fr18_Precedes.j3 (q33 : Bool) : Option (Go.Ab.Step Bool Unit) :=
  (if q33 = true then (some (.ret true)) else (some (.cont ())))
def Fr18_Precedes.b1 (a1 : List UInt8) (a2 : List UInt8) (x30 : GLink) (i29 : Nat) (s28 : Unit) : Option (Go.Ab.Step Bool Unit) :=
  (if decide (x30.First = a1) = true then (Fr18_Precedes.j3 (decide (x30.Second = a2))) else (Fr18_Precedes.j3 false))
def Fr18_Precedes (k : Nat) (a0 : List GLink) (a1 : List UInt8) (a2 : List UInt8) : Option Bool :=
  ((loopL (Fr18_Precedes.b1 a1 a2) a0 0 ()).bind fun out => Out.el out (fun r0 => some r0) fun _ => (some false))
theorem fr18_Precedes_ok {k : Nat} {a0 : List GLink} {a1 : List UInt8} {a2 : List UInt8} {r : Bool} (h : Fr18_Precedes k a0 a1 a2 = some r) :
    ACalls Tryz.prog gl 94 [(pL GLink.cells a0), (pS a1), (pS a2)] [] (pB r) [] [] := by
  refine ACalls.enter sys Tryz.func94 fun w F ν => ?_
  unfold Fr18_Precedes at h
  refine AConf.go sys 0 100 [.l GLink.cells a0] ?_
  refine AConf.range (bodyOf Tryz.f94) [1, 0, 1] (fun (_s : Unit) => ([(1, some (pS a1)), (2, some (pS a2)), (6, some (pB false)), (9, some (pL GLink.cells a0)), (10, some (pI (a0.length : Int)))], [])) (bR 0 GLink.cells) h (fun _ h => h.symm) (fun _ h => ?_) (fun i29 x30 _ o27 hx31 h hrt => ?_)
  · obtain rfl := Option.some.inj h
    refine AConf.go sys 0 102 [] ?_
    exact AConf.fin
  · unfold Fr18_Precedes.b1 at h
    refine AConf.go sys 3596 101 [.e GLink.cells hx31] ?_
    refine AConf.join (ι := Bool) (bodyOf Tryz.f94) [1, 9, 1, 0, 1] (fun q33 => Fr18_Precedes.j3 q33 = some o27) (fun (q33 : Bool) => ([(1, some (pS a1)), (2, some (pS a2)), (6, some (pB false)), (9, some (pL GLink.cells a0)), (10, some (pI (a0.length : Int))), (11, some (pI (i29 : Int))), (24, some (pB q33))], [])) ?_ fun q33 h => ?_
    · rcases ite_or h with ⟨hb35, h⟩ | ⟨hb35, h⟩
      · refine AConf.go sys 0 102 [.kk 4 hb35] ?_
        exact AConf.joinN (i := (decide (x30.Second = a2))) h
      · refine AConf.go sys 0 102 [.kk 4 hb35] ?_
        exact AConf.joinN (i := false) h
    · unfold Fr18_Precedes.j3 at h
      rcases ite_or h with ⟨hb34, h⟩ | ⟨hb34, h⟩
      · obtain rfl := Option.some.inj h
        obtain rfl := hrt _ rfl
        refine AConf.go sys 0 102 [.k hb34] ?_
        refine AConf.rngR ?_
        exact AConf.fin
      · refine AConf.go sys 0 102 [.k hb34] ?_
        exact AConf.rngC h

-- triggerstore/triggerstoreref18.Valid
def Fr18_Valid.j15 (q224 : Bool) : Option (Go.Ab.Step Bool Unit) :=
  (if q224 = true then (some (.ret false)) else (some (.cont ())))
def Fr18_Valid.b4 (k : Nat) (a0 : List GLink) (x180 : GLink) (x219 : GLink) (i218 : Nat) (s217 : Unit) : Option (Go.Ab.Step Bool Unit) :=
  (if decide (x180.Second = x219.First) = true then ((Fr18_Precedes k a0 x180.First x219.Second).bind fun p227 => (Fr18_Valid.j15 (!p227))) else (Fr18_Valid.j15 false))
def Fr18_Valid.j13 (k : Nat) (a0 : List GLink) (x180 : GLink) (q202 : Bool) : Option (Go.Ab.Step Bool Unit) :=
  (if q202 = true then (some (.ret false)) else ((loopL (Fr18_Valid.b4 k a0 x180) a0 0 ()).bind fun out => Out.el out (fun r0 => some (.ret r0)) fun _ => (some (.cont ()))))
def Fr18_Valid.b5 (k : Nat) (a0 : List GLink) (x180 : GLink) (i179 : Nat) (s178 : Unit) : Option (Go.Ab.Step Bool Unit) :=
  (if decide (x180.First = x180.Second) = true then (Fr18_Valid.j13 k a0 x180 true) else (if decide (0 < (i179 : Int)) = true then ((idx a0 (w64 ((i179 : Int) - 1))).bind fun x232 => ((Fr18_before k x232 x180).bind fun p234 => (Fr18_Valid.j13 k a0 x180 (!p234)))) else (Fr18_Valid.j13 k a0 x180 false)))
def Fr18_Valid (k : Nat) (a0 : List GLink) : Option Bool :=
  ((loopL (Fr18_Valid.b5 k a0) a0 0 ()).bind fun out => Out.el out (fun r0 => some r0) fun _ => (some true))
theorem fr18_Valid_ok {k : Nat} {a0 : List GLink} {r : Bool} (h : Fr18_Valid k a0 = some r) :
    ACalls Tryz.prog gl 47 [(pL GLink.cells a0)] [] (pB r) [] [] := by
  refine ACalls.enter sys Tryz.func47 fun w F ν => ?_
  unfold Fr18_Valid at h
  refine AConf.go sys 0 100 [.l GLink.cells a0] ?_
  refine AConf.range (bodyOf Tryz.f47) [1, 0, 1] (fun (_s : Unit) => ([(0, some (pL GLink.cells a0)), (2, some (pB false)), (7, some (pL GLink.cells a0)), (8, some (pI (a0.length : Int)))], [])) (bR 0 GLink.cells) h (fun _ h => h.symm) (fun _ h => ?_) (fun i179 x180 _ o177 hx181 h hrt => ?_)
  · obtain rfl := Option.some.inj h
    refine AConf.go sys 0 106 [] ?_
    exact AConf.fin
  · unfold Fr18_Valid.b5 at h
    refine AConf.go sys 6226 103 [.e GLink.cells hx181] ?_
    refine AConf.join (ι := Bool) (bodyOf Tryz.f47) [0, 1, 9, 1, 0, 1] (fun q202 => Fr18_Valid.j13 k a0 x180 q202 = some o177) (fun (q202 : Bool) => ([(0, some (pL GLink.cells a0)), (2, some (pB false)), (4, some (.ptr 103 0)), (7, some (pL GLink.cells a0)), (8, some (pI (a0.length : Int))), (9, some (pI (i179 : Int))), (32, some (pB q202))], [(103, some (.var (GLink.pvs x180)))])) ?_ fun q202 h => ?_
    · rcases ite_or h with ⟨hb230, h⟩ | ⟨hb230, h⟩
      · refine AConf.go sys 0 106 [.kk 4 hb230] ?_
        exact AConf.joinN (i := true) h
      · rcases ite_or h with ⟨hb231, h⟩ | ⟨hb231, h⟩
        · obtain ⟨x232, hv233, h⟩ := bind_some h
          obtain ⟨p234, hp235, h⟩ := bind_some h
          refine AConf.go sys 0 106 [.kk 2 hb230, .kk 3 hb231, .x GLink.cells hv233, .kk 2 hb231, .call (fr18_before_ok hp235), .k hb231, .k hb230, .k hb231, .k hb230] ?_
          exact AConf.joinN (i := (!p234)) h
        · refine AConf.go sys 0 106 [.kk 2 hb230, .kk 7 hb231, .k hb230, .k hb231, .k hb230] ?_
          exact AConf.joinN (i := false) h
    · unfold Fr18_Valid.j13 at h
      rcases ite_or h with ⟨hb203, h⟩ | ⟨hb203, h⟩
      · obtain rfl := Option.some.inj h
        obtain rfl := hrt _ rfl
        refine AConf.go sys 0 104 [.k hb203] ?_
        refine AConf.rngR ?_
        exact AConf.fin
      · refine AConf.go sys 0 104 [.k hb203, .l GLink.cells a0] ?_
        refine AConf.range (bodyOf Tryz.f47) [1, 1, 1, 9, 1, 0, 1] (fun (_s : Unit) => ([(0, some (pL GLink.cells a0)), (2, some (pB false)), (4, some (.ptr 103 0)), (7, some (pL GLink.cells a0)), (8, some (pI (a0.length : Int))), (9, some (pI (i179 : Int))), (33, some (pL GLink.cells a0)), (34, some (pI (a0.length : Int)))], [(103, some (.var (GLink.pvs x180)))])) (bR 0 GLink.cells) h hrt (fun _ h => ?_) (fun i218 x219 _ o216 hx220 h hrt => ?_)
        · refine AConf.go sys 0 106 [] ?_
          exact AConf.rngC h
        · unfold Fr18_Valid.b4 at h
          refine AConf.go sys 8887 105 [.e GLink.cells hx220] ?_
          refine AConf.join (ι := Bool) (bodyOf Tryz.f47) [1, 9, 1, 1, 1, 9, 1, 0, 1] (fun q224 => Fr18_Valid.j15 q224 = some o216) (fun (q224 : Bool) => ([(0, some (pL GLink.cells a0)), (2, some (pB false)), (4, some (.ptr 103 0)), (7, some (pL GLink.cells a0)), (8, some (pI (a0.length : Int))), (9, some (pI (i179 : Int))), (33, some (pL GLink.cells a0)), (34, some (pI (a0.length : Int))), (35, some (pI (i218 : Int))), (52, some (pB q224))], [(103, some (.var (GLink.pvs x180)))])) ?_ fun q224 h => ?_
          · rcases ite_or h with ⟨hb226, h⟩ | ⟨hb226, h⟩
            · obtain ⟨p227, hp228, h⟩ := bind_some h
              refine AConf.go sys 0 106 [.kk 5 hb226, .call (fr18_Precedes_ok hp228), .kk 1 hb226] ?_
              exact AConf.joinN (i := (!p227)) h
            · refine AConf.go sys 0 106 [.kk 7 hb226] ?_
              exact AConf.joinN (i := false) h
          · unfold Fr18_Valid.j15 at h
            rcases ite_or h with ⟨hb225, h⟩ | ⟨hb225, h⟩
            · obtain rfl := Option.some.inj h
              obtain rfl := hrt _ rfl
              refine AConf.go sys 0 106 [.k hb225] ?_
              refine AConf.rngR ?_
              refine AConf.rngR ?_
              exact AConf.fin
            · refine AConf.go sys 0 106 [.k hb225] ?_
              exact AConf.rngC h

-- triggerstore/triggerstoreref18.Add
def Fr18_Add.b1 (k : Nat) (a1 : List UInt8) (x44 : List UInt8) (i43 : Nat) (s42 : List GLink) : Option (Go.Ab.Step ((List GLink) × Int) (List GLink)) :=
  ((Fr18_insert k s42 (GLink.mk a1 x44)).bind fun p46 => (some (.cont p46)))
def Fr18_Add.b3 (k : Nat) (a1 : List UInt8) (x84 : List UInt8) (i83 : Nat) (s82 : List GLink) : Option (Go.Ab.Step ((List GLink) × Int) (List GLink)) :=
  ((Fr18_insert k s82 (GLink.mk x84 a1)).bind fun p86 => (some (.cont p86)))
def Fr18_Add (k : Nat) (a0 : List GLink) (a1 : List UInt8) (a2 : List (List UInt8)) (a3 : List (List UInt8)) : Option ((List GLink) × Int) :=
  ((Fr18_Valid k a0).bind fun p4 => (if p4 = true then ((app 32 ([] : List GLink) a0).bind fun l7 => ((loopL (Fr18_Add.b1 k a1) a2 0 l7).bind fun out => Out.el out (fun r0 => some r0) fun s48 => ((loopL (Fr18_Add.b3 k a1) a3 0 s48).bind fun out => Out.el out (fun r0 => some r0) fun s88 => ((Fr18_closure k s88).bind fun p89 => ((Fr18_Valid k p89).bind fun p94 => (if p94 = true then (some (p89, 0)) else (some ([], 13)))))))) else (some ([], 17))))
theorem fr18_Add_ok {k : Nat} {a0 : List GLink} {a1 : List UInt8} {a2 : List (List UInt8)} {a3 : List (List UInt8)} {r : (List GLink) × Int} (h : Fr18_Add k a0 a1 a2 a3 = some r) :
    ACalls Tryz.prog gl 16 [(pL GLink.cells a0), (pS a1), (pL cS a2), (pL cS a3)] [] (.tup [(pL GLink.cells r.1), (pI r.2)]) [] [] := by
  refine ACalls.enter sys Tryz.func16 fun w F ν => ?_
  unfold Fr18_Add at h
  obtain ⟨p4, hp5, h⟩ := bind_some h
  refine AConf.go sys 0 100 [.call (fr18_Valid_ok hp5)] ?_
  rcases ite_or h with ⟨hb6, h⟩ | ⟨hb6, h⟩
  · obtain ⟨l7, hv8, h⟩ := bind_some h
    refine AConf.go sys 0 100 [.k (notT hb6), .a false GLink.cells_len hv8, .l cS a2, .frz 3876 100] ?_
    refine AConf.range (bodyOf Tryz.f16) [1, 0, 1, 1, 1] (fun (s42 : List GLink) => ([(1, some (pS a1)), (3, some (pL cS a3)), (8, some pN), (9, some (pI 0)), (10, some (pL GLink.cells s42)), (20, some (pL cS a2)), (21, some (pI (a2.length : Int)))], [])) (bR 2 cS) h (fun _ h => h.symm) (fun s48 h => ?_) (fun i43 x44 s42 o41 hx45 h hrt => ?_)
    · refine AConf.go sys 0 101 [.l cS a3] ?_
      refine AConf.range (bodyOf Tryz.f16) [1, 0, 1, 1, 1, 1] (fun (s82 : List GLink) => ([(1, some (pS a1)), (8, some pN), (9, some (pI 0)), (10, some (pL GLink.cells s82)), (32, some (pL cS a3)), (33, some (pI (a3.length : Int)))], [])) (bR 3 cS) h (fun _ h => h.symm) (fun s88 h => ?_) (fun i83 x84 s82 o81 hx85 h hrt => ?_)
      · obtain ⟨p89, hp90, h⟩ := bind_some h
        obtain ⟨p94, hp95, h⟩ := bind_some h
        refine AConf.go sys 0 101 [.call (fr18_closure_ok hp90), .call (fr18_Valid_ok hp95)] ?_
        rcases ite_or h with ⟨hb96, h⟩ | ⟨hb96, h⟩
        · obtain rfl := Option.some.inj h
          refine AConf.go sys 0 101 [.k (notT hb96)] ?_
          exact AConf.fin
        · obtain rfl := Option.some.inj h
          refine AConf.go sys 0 101 [.k (notF hb96)] ?_
          exact AConf.fin
      · unfold Fr18_Add.b3 at h
        obtain ⟨p86, hp87, h⟩ := bind_some h
        refine AConf.go sys 0 101 [.e cS hx85, .call (fr18_insert_ok hp87)] ?_
        exact AConf.rngC h
    · unfold Fr18_Add.b1 at h
      obtain ⟨p46, hp47, h⟩ := bind_some h
      refine AConf.go sys 0 101 [.e cS hx45, .call (fr18_insert_ok hp47)] ?_
      exact AConf.rngC h
  · obtain rfl := Option.some.inj h
    refine AConf.go sys 0 100 [.k (notF hb6)] ?_
    exact AConf.fin

-- triggerstore/triggerstoreworld.Mod
def Fw_Mod.j0 (q5 : Int) : Option Int :=
  (some q5)
def Fw_Mod (k : Nat) (a0 : Int) (a1 : Int) : Option Int :=
  ((rem a0 a1).bind fun v1 => (if decide (v1 < 0) = true then (Fw_Mod.j0 (w64 (v1 + a1))) else (Fw_Mod.j0 v1)))
theorem fw_Mod_ok {k : Nat} {a0 : Int} {a1 : Int} {r : Int} (h : Fw_Mod k a0 a1 = some r) :
    ACalls Tryz.prog gl 31 [(pI a0), (pI a1)] [] (pI r) [] [] := by
  refine ACalls.enter sys Tryz.func31 fun w F ν => ?_
  unfold Fw_Mod at h
  obtain ⟨v1, hv3, h⟩ := bind_some h
  refine AConf.go sys 7143 100 [.d hv3] ?_
  refine AConf.join (ι := Int) (bodyOf Tryz.f31) [1, 1] (fun q5 => Fw_Mod.j0 q5 = some r) (fun (q5 : Int) => ([(0, some (pI q5)), (4, some (pI 0))], [])) ?_ fun q5 h => ?_
  · rcases ite_or h with ⟨hb6, h⟩ | ⟨hb6, h⟩
    · refine AConf.go sys 0 100 [.k hb6] ?_
      exact AConf.joinN (i := (w64 (v1 + a1))) h
    · refine AConf.go sys 0 100 [.k hb6] ?_
      exact AConf.joinN (i := v1) h
  · unfold Fw_Mod.j0 at h
    obtain rfl := Option.some.inj h
    refine AConf.go sys 0 100 [] ?_
    exact AConf.fin

-- (*triggerstore/triggerstoreworld.Tape).Next
def Fw_Tape_Next (k : Nat) (a0 : GTape) (a1 : Int) : Option (Int × GTape) :=
  (if decide ((a0.l_.length : Int) ≤ a0.at_) = true then (some (0, a0)) else ((idx a0.l_ (w64 ((w64 (a0.at_ + 1)) - 1))).bind fun x3 => ((Fw_Mod k x3 a1).bind fun p5 => (some (p5, (GTape.mk a0.l_ (w64 (a0.at_ + 1))))))))
theorem fw_Tape_Next_ok {k : Nat} {a0 : GTape} {a1 : Int} {r : Int × GTape} (h : Fw_Tape_Next k a0 a1 = some r) :
    ACalls Tryz.prog gl 12 [(.ptr 0 0), (pI a1)] [(0, some (.var (GTape.pvs a0)))] (pI r.1) [(0, some (.var (GTape.pvs r.2)))] [] := by
  refine ACalls.enter sys Tryz.func12 fun w F ν => ?_
  unfold Fw_Tape_Next at h
  refine AConf.go sys 0 100 [.l cI a0.l_] ?_
  rcases ite_or h with ⟨hb2, h⟩ | ⟨hb2, h⟩
  · obtain rfl := Option.some.inj h
    refine AConf.go sys 0 100 [.k hb2] ?_
    exact AConf.fin
  · obtain ⟨x3, hv4, h⟩ := bind_some h
    obtain ⟨p5, hp6, h⟩ := bind_some h
    obtain rfl := Option.some.inj h
    refine AConf.go sys 0 100 [.k hb2, .x cI hv4, .call (fw_Mod_ok hp6)] ?_
    exact AConf.fin

-- triggerstore/triggerstoreworld.Col
def Fw_Col (k : Nat) (a0 : List UInt8) (a1 : List UInt8) : Option GExpr :=
  (some (GExpr.mk 2 0 false (GValue.mk 0 0 []) a0 a1 [] []))
theorem fw_Col_ok {k : Nat} {a0 : List UInt8} {a1 : List UInt8} {r : GExpr} (h : Fw_Col k a0 a1 = some r) :
    ACalls Tryz.prog gl 79 [(pS a0), (pS a1)] [] (.agg (GExpr.pvs r)) [] [] := by
  refine ACalls.enter sys Tryz.func79 fun w F ν => ?_
  unfold Fw_Col at h
  obtain rfl := Option.some.inj h
  refine AConf.go sys 0 100 [] ?_
  exact AConf.fin

-- (*triggerstore/triggerstoreworld.Tape).column
def Fw_Tape_column.j17 (k : Nat) (x347 : GColumn) (l353 : List GExpr) (q356 : Bool) : Option (Go.Ab.Step (GExpr × Bool × GTape) (List GExpr)) :=
  (if q356 = true then ((Fw_Col k [] x347.Name).bind fun p358 => ((app 136 l353 ([p358])).bind fun l360 => (some (.cont l360)))) else (some (.cont l353)))
def Fw_Tape_column.b6 (k : Nat) (a1 : GPlace) (a2 : Int) (i305 : Nat) (x306 : GFrame) (x347 : GColumn) (i346 : Nat) (s345 : List GExpr) : Option (Go.Ab.Step (GExpr × Bool × GTape) (List GExpr)) :=
  (if decide (x347.Typ = a2) = true then ((Fw_Col k x306.Name x347.Name).bind fun p351 => ((app 136 s345 ([p351])).bind fun l353 => (if x306.Strict = true then (Fw_Tape_column.j17 k x347 l353 false) else (Fw_Tape_column.j17 k x347 l353 (decide ((i305 : Int) = (w64 ((a1.Frames.length : Int) - 1)))))))) else (some (.cont s345)))
def Fw_Tape_column.b7 (k : Nat) (a1 : GPlace) (a2 : Int) (x306 : GFrame) (i305 : Nat) (s304 : List GExpr) : Option (Go.Ab.Step (GExpr × Bool × GTape) (List GExpr)) :=
  ((loopL (Fw_Tape_column.b6 k a1 a2 i305 x306) x306.Columns 0 s304).bind fun out => Out.el out (fun r0 => some (.ret r0)) fun s363 => (some (.cont s363)))
def Fw_Tape_column (k : Nat) (a0 : GTape) (a1 : GPlace) (a2 : Int) : Option (GExpr × Bool × GTape) :=
  ((loopL (Fw_Tape_column.b7 k a1 a2) a1.Frames 0 ([] : List GExpr)).bind fun out => Out.el out (fun r0 => some r0) fun s364 => (if decide ((s364.length : Int) = 0) = true then (some ((GExpr.mk 0 0 false (GValue.mk 0 0 []) [] [] [] []), false, a0)) else ((Fw_Tape_Next k a0 (s364.length : Int)).bind fun p367 => ((idx s364 p367.1).bind fun x369 => (some (x369, true, p367.2))))))
theorem fw_Tape_column_ok {k : Nat} {a0 : GTape} {a1 : GPlace} {a2 : Int} {r : GExpr × Bool × GTape} (h : Fw_Tape_column k a0 a1 a2 = some r) :
    ACalls Tryz.prog gl 70 [(.ptr 0 0), (.agg (GPlace.pvs a1)), (pI a2)] [(0, some (.var (GTape.pvs a0)))] (.tup [(.agg (GExpr.pvs r.1)), (pB r.2.1)]) [(0, some (.var (GTape.pvs r.2.2)))] [] := by
  refine ACalls.enter sys Tryz.func70 fun w F ν => ?_
  unfold Fw_Tape_column at h
  refine AConf.go sys 0 100 [.l GFrame.cells a1.Frames, .ownR 8953 false 8 139 106 10] ?_
  refine AConf.range (bodyOf Tryz.f70) [1, 0, 1, 1] (fun (s304 : List GExpr) => ([(0, some (.ptr 0 0)), (2, some (pI a2)), (4, some (.ptr 100 0)), (6, some (.ptr 101 0)), (7, some (pB false)), (8, some (.osl 139)), (14, some (pL GFrame.cells a1.Frames)), (15, some (pI (a1.Frames.length : Int)))], [(139, some (.arr false 106 10 (s304.map GExpr.cells))), (0, some (.var (GTape.pvs a0))), (100, some (.var (GPlace.pvs a1))), (101, some (.var [(pI 0), (pI 0), (pB false), (pI 0), (pI 0), (pS []), (pS []), (pS []), pN, pN]))])) (bR 14 GFrame.cells) h (fun _ h => h.symm) (fun s364 h => ?_) (fun i305 x306 s304 o303 hx307 h hrt => ?_)
  · refine AConf.go sys 0 156 [.l GExpr.cells s364] ?_
    rcases ite_or h with ⟨hb366, h⟩ | ⟨hb366, h⟩
    · obtain rfl := Option.some.inj h
      refine AConf.go sys 0 156 [.k hb366] ?_
      exact AConf.fin
    · obtain ⟨p367, hp368, h⟩ := bind_some h
      obtain ⟨x369, hv370, h⟩ := bind_some h
      obtain rfl := Option.some.inj h
      refine AConf.go sys 0 156 [.k hb366, .l GExpr.cells s364, .call (fw_Tape_Next_ok hp368), .xr GExpr.cells_eq hv370, .xr GExpr.cells_eq hv370] ?_
      exact AConf.fin
  · unfold Fw_Tape_column.b7 at h
    refine AConf.go sys 0 140 [.e GFrame.cells hx307, .l GColumn.cells x306.Columns] ?_
    refine AConf.range (bodyOf Tryz.f70) [1, 1, 9, 1, 0, 1, 1] (fun (s345 : List GExpr) => ([(0, some (.ptr 0 0)), (2, some (pI a2)), (4, some (.ptr 100 0)), (6, some (.ptr 101 0)), (7, some (pB false)), (8, some (.osl 139)), (9, some (pI (i305 : Int))), (10, some (.ptr 140 0)), (14, some (pL GFrame.cells a1.Frames)), (15, some (pI (a1.Frames.length : Int))), (16, some (pI (i305 : Int))), (22, some (pL GColumn.cells x306.Columns)), (23, some (pI (x306.Columns.length : Int)))], [(139, some (.arr false 106 10 (s345.map GExpr.cells))), (0, some (.var (GTape.pvs a0))), (100, some (.var (GPlace.pvs a1))), (101, some (.var [(pI 0), (pI 0), (pB false), (pI 0), (pI 0), (pS []), (pS []), (pS []), pN, pN])), (140, some (.var (GFrame.pvs x306)))])) (bR 22 GColumn.cells) h hrt (fun s363 h => ?_) (fun i346 x347 s345 o344 hx348 h hrt => ?_)
    · refine AConf.go sys 0 156 [] ?_
      exact AConf.rngC h
    · unfold Fw_Tape_column.b6 at h
      refine AConf.go sys 0 151 [.e GColumn.cells hx348] ?_
      rcases ite_or h with ⟨hb350, h⟩ | ⟨hb350, h⟩
      · obtain ⟨p351, hp352, h⟩ := bind_some h
        obtain ⟨l353, hv354, h⟩ := bind_some h
        refine AConf.go sys 4667 152 [.k (notT hb350), .call (fw_Col_ok hp352), .br false GExpr.cells_eq ([p351]), .a false GExpr.cells_len hv354] ?_
        refine AConf.join (ι := Bool) (bodyOf Tryz.f70) [1, 1, 1, 9, 1, 1, 9, 1, 0, 1, 1] (fun q356 => Fw_Tape_column.j17 k x347 l353 q356 = some o344) (fun (q356 : Bool) => ([(0, some (.ptr 0 0)), (2, some (pI a2)), (4, some (.ptr 100 0)), (6, some (.ptr 101 0)), (7, some (pB false)), (8, some (.osl 153)), (9, some (pI (i305 : Int))), (10, some (.ptr 140 0)), (12, some (.ptr 151 0)), (14, some (pL GFrame.cells a1.Frames)), (15, some (pI (a1.Frames.length : Int))), (16, some (pI (i305 : Int))), (22, some (pL GColumn.cells x306.Columns)), (23, some (pI (x306.Columns.length : Int))), (24, some (pI (i346 : Int))), (50, some (pB q356))], [(153, some (.arr false 106 10 (l353.map GExpr.cells))), (0, some (.var (GTape.pvs a0))), (100, some (.var (GPlace.pvs a1))), (101, some (.var [(pI 0), (pI 0), (pB false), (pI 0), (pI 0), (pS []), (pS []), (pS []), pN, pN])), (140, some (.var (GFrame.pvs x306))), (151, some (.var (GColumn.pvs x347)))])) ?_ fun q356 h => ?_
        · rcases ite_or h with ⟨hb362, h⟩ | ⟨hb362, h⟩
          · refine AConf.go sys 0 156 [.kk 6 (notT hb362)] ?_
            exact AConf.joinN (i := false) h
          · refine AConf.go sys 0 156 [.kk 3 (notF hb362), .l GFrame.cells a1.Frames, .kk 2 (notF hb362)] ?_
            exact AConf.joinN (i := (decide ((i305 : Int) = (w64 ((a1.Frames.length : Int) - 1))))) h
        · unfold Fw_Tape_column.j17 at h
          rcases ite_or h with ⟨hb357, h⟩ | ⟨hb357, h⟩
          · obtain ⟨p358, hp359, h⟩ := bind_some h
            obtain ⟨l360, hv361, h⟩ := bind_some h
            refine AConf.go sys 0 154 [.k hb357, .call (fw_Col_ok hp359), .br false GExpr.cells_eq ([p358]), .a false GExpr.cells_len hv361, .kp 7 [0, 2, 4, 6, 7, 8, 9, 10, 14, 15, 16, 22, 23, 24] [0, 100, 101, 140, 155], .ren 7 155 139] ?_
            exact AConf.rngC h
          · refine AConf.go sys 0 154 [.k hb357, .kp 7316 [0, 2, 4, 6, 7, 8, 9, 10, 14, 15, 16, 22, 23, 24] [0, 100, 101, 140, 153], .ren 7316 153 139] ?_
            exact AConf.rngC h
      · refine AConf.go sys 0 152 [.k (notF hb350)] ?_
        exact AConf.rngC h

-- triggerstore/triggerstoreworld.Lit
def Fw_Lit (k : Nat) (a0 : GValue) : Option GExpr :=
  (some (GExpr.mk 1 0 false a0 [] [] [] []))
theorem fw_Lit_ok {k : Nat} {a0 : GValue} {r : GExpr} (h : Fw_Lit k a0 = some r) :
    ACalls Tryz.prog gl 71 [(.agg (GValue.pvs a0))] [] (.agg (GExpr.pvs r)) [] [] := by
  refine ACalls.enter sys Tryz.func71 fun w F ν => ?_
  unfold Fw_Lit at h
  obtain rfl := Option.some.inj h
  refine AConf.go sys 0 100 [] ?_
  exact AConf.fin

-- (*triggerstore/triggerstoreworld.Tape).Bool
def Fw_Tape_Bool (k : Nat) (a0 : GTape) (a1 : Int) : Option (Bool × GTape) :=
  ((Fw_Tape_Next k a0 a1).bind fun p1 => (some (decide (p1.1 = (w64 (a1 - 1))), p1.2)))
theorem fw_Tape_Bool_ok {k : Nat} {a0 : GTape} {a1 : Int} {r : Bool × GTape} (h : Fw_Tape_Bool k a0 a1 = some r) :
    ACalls Tryz.prog gl 33 [(.ptr 0 0), (pI a1)] [(0, some (.var (GTape.pvs a0)))] (pB r.1) [(0, some (.var (GTape.pvs r.2)))] [] := by
  refine ACalls.enter sys Tryz.func33 fun w F ν => ?_
  unfold Fw_Tape_Bool at h
  obtain ⟨p1, hp2, h⟩ := bind_some h
  obtain rfl := Option.some.inj h
  refine AConf.go sys 0 100 [.call (fw_Tape_Next_ok hp2)] ?_
  exact AConf.fin

-- triggerstore/triggerstoreworld.Inside
def Fw_Inside (k : Nat) (a0 : GPlace) (a1 : GSchema) : Option GPlace :=
  ((app 72 ([] : List GFrame) a0.Frames).bind fun l1 => ((app 72 l1 ([(GFrame.mk a1.Name false a1.Columns [])])).bind fun l3 => (some (GPlace.mk l3 a0.Tables))))
theorem fw_Inside_ok {k : Nat} {a0 : GPlace} {a1 : GSchema} {r : GPlace} (h : Fw_Inside k a0 a1 = some r) :
    ACalls Tryz.prog gl 81 [(.agg (GPlace.pvs a0)), (.agg (GSchema.pvs a1))] [] (.agg (GPlace.pvs r)) [] [] := by
  refine ACalls.enter sys Tryz.func81 fun w F ν => ?_
  unfold Fw_Inside at h
  obtain ⟨l1, hv2, h⟩ := bind_some h
  obtain ⟨l3, hv4, h⟩ := bind_some h
  obtain rfl := Option.some.inj h
  refine AConf.go sys 0 100 [.a false GFrame.cells_len hv2, .b false GFrame.cells ([(GFrame.mk a1.Name false a1.Columns [])]), .a false GFrame.cells_len hv4, .frz 1137 105] ?_
  exact AConf.fin

-- triggerstore/triggerstoreworld.Bin
def Fw_Bin (k : Nat) (a0 : Int) (a1 : GExpr) (a2 : GExpr) : Option GExpr :=
  (some (GExpr.mk 5 a0 false (GValue.mk 0 0 []) [] [] ([a1, a2]) []))
theorem fw_Bin_ok {k : Nat} {a0 : Int} {a1 : GExpr} {a2 : GExpr} {r : GExpr} (h : Fw_Bin k a0 a1 a2 = some r) :
    ACalls Tryz.prog gl 76 [(pI a0), (.agg (GExpr.pvs a1)), (.agg (GExpr.pvs a2))] [] (.agg (GExpr.pvs r)) [] [] := by
  refine ACalls.enter sys Tryz.func76 fun w F ν => ?_
  unfold Fw_Bin at h
  obtain rfl := Option.some.inj h
  refine AConf.go sys 0 100 [.br false GExpr.cells_eq ([a1, a2]), .frz 7143 103] ?_
  exact AConf.fin

-- triggerstore/triggerstoreworld.Num
structure Recw_Num where
  rw_Num : Int → Option GExpr
structure Recw_NumOK (R : Recw_Num) : Prop where
  rw_Num : ∀ {a0 : Int} {r : GExpr}, R.rw_Num a0 = some r → ACalls Tryz.prog gl 72 [(pI a0)] [] (.agg (GExpr.pvs r)) [] []
def Fw_Numb (k : Nat) (R : Recw_Num) (a0 : Int) : Option GExpr :=
  (if decide (a0 < 0) = true then ((R.rw_Num (w64 (0 - a0))).bind fun p5 => (some (GExpr.mk 4 0 false (GValue.mk 0 0 []) [] [] ([p5]) []))) else ((Fw_Lit k (GValue.mk 1 a0 [])).bind fun p7 => (some p7)))
theorem fw_Num_okb {k : Nat} {R : Recw_Num} (hR : Recw_NumOK R) {a0 : Int} {r : GExpr} (h : Fw_Numb k R a0 = some r) :
    ACalls Tryz.prog gl 72 [(pI a0)] [] (.agg (GExpr.pvs r)) [] [] := by
  refine ACalls.enter sys Tryz.func72 fun w F ν => ?_
  unfold Fw_Numb at h
  rcases ite_or h with ⟨hb4, h⟩ | ⟨hb4, h⟩
  · obtain ⟨p5, hp6, h⟩ := bind_some h
    obtain rfl := Option.some.inj h
    refine AConf.go sys 0 100 [.k hb4, .call (hR.rw_Num hp6), .br false GExpr.cells_eq ([p5]), .frz 3561 101] ?_
    exact AConf.fin
  · obtain ⟨p7, hp8, h⟩ := bind_some h
    obtain rfl := Option.some.inj h
    refine AConf.go sys 0 100 [.k hb4, .call (fw_Lit_ok hp8)] ?_
    exact AConf.fin
def recw_Num (k : Nat) : Nat → Recw_Num
  | 0 => ⟨fun _ => none⟩
  | n + 1 => ⟨Fw_Numb k (recw_Num k n)⟩
theorem recw_Num_ok (k : Nat) : ∀ n, Recw_NumOK (recw_Num k n)
  | 0 => ⟨fun h => absurd (show none = some _ from h) nofun⟩
  | n + 1 => ⟨fun h => fw_Num_okb (k := k) (recw_Num_ok k n) h⟩
def Fw_Num (k : Nat) (a0 : Int) : Option GExpr := Fw_Numb k (recw_Num k k) a0
theorem fw_Num_ok {k : Nat} {a0 : Int} {r : GExpr} (h : Fw_Num k a0 = some r) : ACalls Tryz.prog gl 72 [(pI a0)] [] (.agg (GExpr.pvs r)) [] [] := fw_Num_okb (k := k) (recw_Num_ok k k) h

-- (*triggerstore/triggerstoreworld.Tape).Small
def Fw_Tape_Small (k : Nat) (a0 : GTape) : Option (Int × GTape) :=
  ((Fw_Tape_Next k a0 16).bind fun p1 => (some (w64 (p1.1 - 3), p1.2)))
theorem fw_Tape_Small_ok {k : Nat} {a0 : GTape} {r : Int × GTape} (h : Fw_Tape_Small k a0 = some r) :
    ACalls Tryz.prog gl 73 [(.ptr 0 0)] [(0, some (.var (GTape.pvs a0)))] (pI r.1) [(0, some (.var (GTape.pvs r.2)))] [] := by
  refine ACalls.enter sys Tryz.func73 fun w F ν => ?_
  unfold Fw_Tape_Small at h
  obtain ⟨p1, hp2, h⟩ := bind_some h
  obtain rfl := Option.some.inj h
  refine AConf.go sys 0 100 [.call (fw_Tape_Next_ok hp2)] ?_
  exact AConf.fin

-- (*triggerstore/triggerstoreworld.Tape).Word
def Fw_Tape_Word (k : Nat) (a0 : GTape) : Option ((List UInt8) × GTape) :=
  ((Fw_Tape_Next k a0 6).bind fun p1 => ((idx G1l p1.1).bind fun x3 => (some (x3, p1.2))))
theorem fw_Tape_Word_ok {k : Nat} {a0 : GTape} {r : (List UInt8) × GTape} (h : Fw_Tape_Word k a0 = some r) :
    ACalls Tryz.prog gl 78 [(.ptr 0 0)] [(0, some (.var (GTape.pvs a0)))] (pS r.1) [(0, some (.var (GTape.pvs r.2)))] [] := by
  refine ACalls.enter sys Tryz.func78 fun w F ν => ?_
  unfold Fw_Tape_Word at h
  obtain ⟨p1, hp2, h⟩ := bind_some h
  obtain ⟨x3, hv4, h⟩ := bind_some h
  obtain rfl := Option.some.inj h
  refine AConf.go sys 0 100 [.call (fw_Tape_Next_ok hp2), .g (f := fS) hv4] ?_
  exact AConf.fin

-- (*triggerstore/triggerstoreworld.Tape).Number
def Fw_Tape_Number (k : Nat) (a0 : GTape) : Option (Int × GTape) :=
  ((Fw_Tape_Next k a0 8).bind fun p12 => (if decide (p12.1 = 0) = true then ((Fw_Tape_Next k p12.2 3).bind fun p15 => (some (w64 (9223372036854775807 - p15.1), p15.2))) else (if decide (p12.1 = 1) = true then ((Fw_Tape_Next k p12.2 3).bind fun p18 => (some (w64 ((-9223372036854775808) + p18.1), p18.2))) else (if decide (p12.1 = 2) = true then ((Fw_Tape_Next k p12.2 9).bind fun p21 => (some (w64 (0 - p21.1), p21.2))) else ((Fw_Tape_Next k p12.2 9).bind fun p23 => (some (p23.1, p23.2)))))))
theorem fw_Tape_Number_ok {k : Nat} {a0 : GTape} {r : Int × GTape} (h : Fw_Tape_Number k a0 = some r) :
    ACalls Tryz.prog gl 108 [(.ptr 0 0)] [(0, some (.var (GTape.pvs a0)))] (pI r.1) [(0, some (.var (GTape.pvs r.2)))] [] := by
  refine ACalls.enter sys Tryz.func108 fun w F ν => ?_
  unfold Fw_Tape_Number at h
  obtain ⟨p12, hp13, h⟩ := bind_some h
  refine AConf.go sys 0 100 [.call (fw_Tape_Next_ok hp13)] ?_
  rcases ite_or h with ⟨hb14, h⟩ | ⟨hb14, h⟩
  · obtain ⟨p15, hp16, h⟩ := bind_some h
    obtain rfl := Option.some.inj h
    refine AConf.go sys 0 100 [.k hb14, .call (fw_Tape_Next_ok hp16)] ?_
    exact AConf.fin
  · refine AConf.go sys 0 100 [.k hb14] ?_
    rcases ite_or h with ⟨hb17, h⟩ | ⟨hb17, h⟩
    · obtain ⟨p18, hp19, h⟩ := bind_some h
      obtain rfl := Option.some.inj h
      refine AConf.go sys 0 100 [.k hb17, .call (fw_Tape_Next_ok hp19)] ?_
      exact AConf.fin
    · refine AConf.go sys 0 100 [.k hb17] ?_
      rcases ite_or h with ⟨hb20, h⟩ | ⟨hb20, h⟩
      · obtain ⟨p21, hp22, h⟩ := bind_some h
        obtain rfl := Option.some.inj h
        refine AConf.go sys 0 100 [.k hb20, .call (fw_Tape_Next_ok hp22)] ?_
        exact AConf.fin
      · obtain ⟨p23, hp24, h⟩ := bind_some h
        obtain rfl := Option.some.inj h
        refine AConf.go sys 0 100 [.k hb20, .call (fw_Tape_Next_ok hp24)] ?_
        exact AConf.fin

-- (*triggerstore/triggerstoreworld.Tape).Typed
def Fw_Tape_Typed (k : Nat) (a0 : GTape) (a1 : Int) : Option (GValue × GTape) :=
  (if decide (a1 = 1) = true then ((Fw_Tape_Number k a0).bind fun p11 => (some ((GValue.mk 1 p11.1 []), p11.2))) else (if decide (a1 = 2) = true then ((Fw_Tape_Next k a0 2).bind fun p14 => (some ((GValue.mk 2 p14.1 []), p14.2))) else (if decide (a1 = 3) = true then ((Fw_Tape_Word k a0).bind fun p17 => (some ((GValue.mk 3 0 p17.1), p17.2))) else (some ((GValue.mk 0 0 []), a0)))))
theorem fw_Tape_Typed_ok {k : Nat} {a0 : GTape} {a1 : Int} {r : GValue × GTape} (h : Fw_Tape_Typed k a0 a1 = some r) :
    ACalls Tryz.prog gl 74 [(.ptr 0 0), (pI a1)] [(0, some (.var (GTape.pvs a0)))] (.agg (GValue.pvs r.1)) [(0, some (.var (GTape.pvs r.2)))] [] := by
  refine ACalls.enter sys Tryz.func74 fun w F ν => ?_
  unfold Fw_Tape_Typed at h
  rcases ite_or h with ⟨hb10, h⟩ | ⟨hb10, h⟩
  · obtain ⟨p11, hp12, h⟩ := bind_some h
    obtain rfl := Option.some.inj h
    refine AConf.go sys 0 100 [.k hb10, .call (fw_Tape_Number_ok hp12)] ?_
    exact AConf.fin
  · refine AConf.go sys 0 100 [.k hb10] ?_
    rcases ite_or h with ⟨hb13, h⟩ | ⟨hb13, h⟩
    · obtain ⟨p14, hp15, h⟩ := bind_some h
      obtain rfl := Option.some.inj h
      refine AConf.go sys 0 101 [.k hb13, .call (fw_Tape_Next_ok hp15)] ?_
      exact AConf.fin
    · refine AConf.go sys 0 101 [.k hb13] ?_
      rcases ite_or h with ⟨hb16, h⟩ | ⟨hb16, h⟩
      · obtain ⟨p17, hp18, h⟩ := bind_some h
        obtain rfl := Option.some.inj h
        refine AConf.go sys 0 101 [.k hb16, .call (fw_Tape_Word_ok hp18)] ?_
        exact AConf.fin
      · obtain rfl := Option.some.inj h
        refine AConf.go sys 0 101 [.k hb16] ?_
        exact AConf.fin

-- (*triggerstore/triggerstoreworld.Tape).condition
-- (*triggerstore/triggerstoreworld.Tape).query
-- (*triggerstore/triggerstoreworld.Tape).Expr
structure Recw_Tape_Expr where
  rw_Tape_Expr : GTape → GPlace → Int → Int → Option (GExpr × GTape)
  rw_Tape_query : GTape → GPlace → Int → Int → Option (GExpr × GTape)
  rw_Tape_condition : GTape → GPlace → Int → Option (GExpr × GTape)
structure Recw_Tape_ExprOK (R : Recw_Tape_Expr) : Prop where
  rw_Tape_Expr : ∀ {a0 : GTape} {a1 : GPlace} {a2 : Int} {a3 : Int} {r : GExpr × GTape}, R.rw_Tape_Expr a0 a1 a2 a3 = some r → ACalls Tryz.prog gl 36 [(.ptr 0 0), (.agg (GPlace.pvs a1)), (pI a2), (pI a3)] [(0, some (.var (GTape.pvs a0)))] (.agg (GExpr.pvs r.1)) [(0, some (.var (GTape.pvs r.2)))] []
  rw_Tape_query : ∀ {a0 : GTape} {a1 : GPlace} {a2 : Int} {a3 : Int} {r : GExpr × GTape}, R.rw_Tape_query a0 a1 a2 a3 = some r → ACalls Tryz.prog gl 75 [(.ptr 0 0), (.agg (GPlace.pvs a1)), (pI a2), (pI a3)] [(0, some (.var (GTape.pvs a0)))] (.agg (GExpr.pvs r.1)) [(0, some (.var (GTape.pvs r.2)))] []
  rw_Tape_condition : ∀ {a0 : GTape} {a1 : GPlace} {a2 : Int} {r : GExpr × GTape}, R.rw_Tape_condition a0 a1 a2 = some r → ACalls Tryz.prog gl 77 [(.ptr 0 0), (.agg (GPlace.pvs a1)), (pI a2)] [(0, some (.var (GTape.pvs a0)))] (.agg (GExpr.pvs r.1)) [(0, some (.var (GTape.pvs r.2)))] []
def Fw_Tape_Expr.j7 (k : Nat) (a2 : Int) (p71 : GExpr × Bool × GTape) (q76 : Bool × GTape) : Option (GExpr × GTape) :=
  (if q76.1 = true then (some (p71.1, (q76.2))) else ((Fw_Tape_Bool k (q76.2) 8).bind fun p83 => (if p83.1 = true then ((Fw_Lit k (GValue.mk 0 0 [])).bind fun p86 => (some (p86, p83.2))) else (if decide (a2 = 1) = true then ((Fw_Tape_Small k p83.2).bind fun p94 => ((Fw_Num k p94.1).bind fun p96 => (some (p96, p94.2)))) else ((Fw_Tape_Typed k p83.2 a2).bind fun p98 => ((Fw_Lit k p98.1).bind fun p100 => (some (p100, p98.2))))))))
def Fw_Tape_Expr.j11 (k : Nat) (R : Recw_Tape_Expr) (a1 : GPlace) (a2 : Int) (a3 : Int) (q142 : Bool × GTape) : Option (GExpr × GTape) :=
  (if q142.1 = true then ((R.rw_Tape_query (q142.2) a1 8 a3).bind fun p144 => (some (p144.1, p144.2))) else (if decide (a2 = 1) = true then ((Fw_Tape_Bool k (q142.2) 6).bind fun p176 => (if p176.1 = true then ((R.rw_Tape_Expr p176.2 a1 a2 (w64 (a3 - 1))).bind fun p179 => (some ((GExpr.mk 4 0 false (GValue.mk 0 0 []) [] [] ([p179.1]) []), p179.2))) else ((Fw_Tape_Next k p176.2 6).bind fun p181 => ((idx ([9, 10, 11, 9, 12, 13]) p181.1).bind fun x183 => ((R.rw_Tape_Expr p181.2 a1 a2 (w64 (a3 - 1))).bind fun p185 => ((R.rw_Tape_Expr p185.2 a1 a2 (w64 (a3 - 1))).bind fun p187 => ((Fw_Bin k x183 p185.1 p187.1).bind fun p189 => (some (p189, p187.2))))))))) else (if decide (a2 = 2) = true then ((R.rw_Tape_condition (q142.2) a1 a3).bind fun p192 => (some (p192.1, p192.2))) else ((Fw_Tape_Typed k (q142.2) a2).bind fun p194 => ((Fw_Lit k p194.1).bind fun p196 => (some (p196, p194.2)))))))
def Fw_Tape_Expr.j9 (k : Nat) (R : Recw_Tape_Expr) (a1 : GPlace) (a2 : Int) (a3 : Int) (q9 : Int × GTape) (q117 : Bool) : Option (GExpr × GTape) :=
  (if q117 = true then ((Fw_Tape_Next k (q9.2) 4).bind fun p119 => ((R.rw_Tape_query p119.2 a1 (w64 (9 + p119.1)) a3).bind fun p121 => (some (p121.1, p121.2)))) else (if decide (a2 = 2) = true then (if decide (q9.1 = 0) = true then (if decide (0 < (a1.Tables.length : Int)) = true then ((Fw_Tape_Bool k (q9.2) 2).bind fun p201 => (Fw_Tape_Expr.j11 k R a1 a2 a3 (p201.1, p201.2))) else (Fw_Tape_Expr.j11 k R a1 a2 a3 (false, (q9.2)))) else (Fw_Tape_Expr.j11 k R a1 a2 a3 (false, (q9.2)))) else (Fw_Tape_Expr.j11 k R a1 a2 a3 (false, (q9.2)))))
def Fw_Tape_Expr.j5 (k : Nat) (R : Recw_Tape_Expr) (a1 : GPlace) (a2 : Int) (a3 : Int) (q9 : Int × GTape) (q59 : Bool) : Option (GExpr × GTape) :=
  (if q59 = true then ((Fw_Tape_column k (q9.2) a1 a2).bind fun p71 => (if p71.2.1 = true then ((Fw_Tape_Bool k p71.2.2 3).bind fun p103 => (Fw_Tape_Expr.j7 k a2 p71 ((!p103.1), p103.2))) else (Fw_Tape_Expr.j7 k a2 p71 (false, p71.2.2)))) else (if decide (a2 = 1) = true then (if decide (q9.1 = 0) = true then (Fw_Tape_Expr.j9 k R a1 a2 a3 q9 (decide (0 < (a1.Tables.length : Int)))) else (Fw_Tape_Expr.j9 k R a1 a2 a3 q9 false)) else (Fw_Tape_Expr.j9 k R a1 a2 a3 q9 false)))
def Fw_Tape_Expr.j1 (k : Nat) (R : Recw_Tape_Expr) (a1 : GPlace) (a2 : Int) (a3 : Int) (q9 : Int × GTape) : Option (GExpr × GTape) :=
  (if decide (a3 ≤ 0) = true then (Fw_Tape_Expr.j5 k R a1 a2 a3 q9 true) else (Fw_Tape_Expr.j5 k R a1 a2 a3 q9 (decide (3 ≤ q9.1))))
def Fw_Tape_Expr.j12 (k : Nat) (R : Recw_Tape_Expr) (a1 : GPlace) (a2 : Int) (a3 : Int) (p1 : Int × GTape) (q207 : Bool) : Option (GExpr × GTape) :=
  (if q207 = true then ((Fw_Tape_Next k p1.2 4).bind fun p209 => (Fw_Tape_Expr.j1 k R a1 a2 a3 (p209.1, p209.2))) else (Fw_Tape_Expr.j1 k R a1 a2 a3 (p1.1, p1.2)))
def Fw_Tape_Exprb (k : Nat) (R : Recw_Tape_Expr) (a0 : GTape) (a1 : GPlace) (a2 : Int) (a3 : Int) : Option (GExpr × GTape) :=
  ((Fw_Tape_Next k a0 6).bind fun p1 => (if decide (4 ≤ p1.1) = true then (Fw_Tape_Expr.j12 k R a1 a2 a3 p1 (decide (0 < a3))) else (Fw_Tape_Expr.j12 k R a1 a2 a3 p1 false)))
theorem fw_Tape_Expr_okb {k : Nat} {R : Recw_Tape_Expr} (hR : Recw_Tape_ExprOK R) {a0 : GTape} {a1 : GPlace} {a2 : Int} {a3 : Int} {r : GExpr × GTape} (h : Fw_Tape_Exprb k R a0 a1 a2 a3 = some r) :
    ACalls Tryz.prog gl 36 [(.ptr 0 0), (.agg (GPlace.pvs a1)), (pI a2), (pI a3)] [(0, some (.var (GTape.pvs a0)))] (.agg (GExpr.pvs r.1)) [(0, some (.var (GTape.pvs r.2)))] [] := by
  refine ACalls.enter sys Tryz.func36 fun w F ν => ?_
  unfold Fw_Tape_Exprb at h
  obtain ⟨p1, hp2, h⟩ := bind_some h
  refine AConf.go sys 7143 100 [.call (fw_Tape_Next_ok hp2)] ?_
  refine AConf.join (ι := Int × GTape) (bodyOf Tryz.f36) [1, 1] (fun q9 => Fw_Tape_Expr.j1 k R a1 a2 a3 q9 = some r) (fun (q9 : Int × GTape) => ([(0, some (.ptr 0 0)), (2, some (pI a2)), (3, some (pI a3)), (5, some (.ptr 100 0)), (8, some (.ptr 101 0)), (9, some (pI q9.1))], [(0, some (.var (GTape.pvs q9.2))), (100, some (.var (GPlace.pvs a1))), (101, some (.var [(pI 0), (pI 0), (pB false), (pI 0), (pI 0), (pS []), (pS []), (pS []), pN, pN]))])) ?_ fun q9 h => ?_
  · refine AConf.go sys 1138 103 [] ?_
    refine AConf.join (ι := Bool) (bodyOf Tryz.f36) [2, 1, 1] (fun q207 => Fw_Tape_Expr.j12 k R a1 a2 a3 p1 q207 = some r) (fun (q207 : Bool) => ([(0, some (.ptr 0 0)), (2, some (pI a2)), (3, some (pI a3)), (5, some (.ptr 100 0)), (8, some (.ptr 101 0)), (9, some (pI p1.1)), (19, some (pB q207))], [(0, some (.var (GTape.pvs p1.2))), (100, some (.var (GPlace.pvs a1))), (101, some (.var [(pI 0), (pI 0), (pB false), (pI 0), (pI 0), (pS []), (pS []), (pS []), pN, pN]))])) ?_ fun q207 h => ?_
    · rcases ite_or h with ⟨hb211, h⟩ | ⟨hb211, h⟩
      · refine AConf.go sys 0 103 [.kk 2 hb211] ?_
        exact AConf.joinN (i := (decide (0 < a3))) h
      · refine AConf.go sys 0 103 [.kk 2 hb211] ?_
        exact AConf.joinN (i := false) h
    · unfold Fw_Tape_Expr.j12 at h
      rcases ite_or h with ⟨hb208, h⟩ | ⟨hb208, h⟩
      · obtain ⟨p209, hp210, h⟩ := bind_some h
        refine AConf.go sys 0 103 [.k hb208, .call (fw_Tape_Next_ok hp210)] ?_
        exact AConf.joinN (i := (p209.1, p209.2)) h
      · refine AConf.go sys 0 103 [.k hb208] ?_
        exact AConf.joinN (i := (p1.1, p1.2)) h
  · unfold Fw_Tape_Expr.j1 at h
    refine AConf.go sys 8959 102 [] ?_
    refine AConf.join (ι := Bool) (bodyOf Tryz.f36) [0, 1, 1, 1] (fun q59 => Fw_Tape_Expr.j5 k R a1 a2 a3 q9 q59 = some r) (fun (q59 : Bool) => ([(0, some (.ptr 0 0)), (2, some (pI a2)), (3, some (pI a3)), (5, some (.ptr 100 0)), (8, some (.ptr 101 0)), (9, some (pI q9.1)), (27, some (pB q59))], [(0, some (.var (GTape.pvs q9.2))), (100, some (.var (GPlace.pvs a1))), (101, some (.var [(pI 0), (pI 0), (pB false), (pI 0), (pI 0), (pS []), (pS []), (pS []), pN, pN]))])) ?_ fun q59 h => ?_
    · rcases ite_or h with ⟨hb205, h⟩ | ⟨hb205, h⟩
      · refine AConf.go sys 0 103 [.kk 2 hb205] ?_
        exact AConf.joinN (i := true) h
      · refine AConf.go sys 0 103 [.kk 2 hb205] ?_
        exact AConf.joinN (i := (decide (3 ≤ q9.1))) h
    · unfold Fw_Tape_Expr.j5 at h
      rcases ite_or h with ⟨hb60, h⟩ | ⟨hb60, h⟩
      · obtain ⟨p71, hp72, h⟩ := bind_some h
        refine AConf.go sys 10391 102 [.k hb60, .call (fw_Tape_column_ok hp72)] ?_
        refine AConf.join (ι := Bool × GTape) (bodyOf Tryz.f36) [1, 0, 4, 1, 0, 1, 1, 1] (fun q76 => Fw_Tape_Expr.j7 k a2 p71 q76 = some r) (fun (q76 : Bool × GTape) => ([(0, some (.ptr 0 0)), (2, some (pI a2)), (3, some (pI a3)), (5, some (.ptr 100 0)), (8, some (.ptr 101 0)), (9, some (pI q9.1)), (10, some (.ptr 102 0)), (40, some (pB q76.1))], [(0, some (.var (GTape.pvs q76.2))), (100, some (.var (GPlace.pvs a1))), (101, some (.var [(pI 0), (pI 0), (pB false), (pI 0), (pI 0), (pS []), (pS []), (pS []), pN, pN])), (102, some (.var (GExpr.pvs p71.1)))])) ?_ fun q76 h => ?_
        · rcases ite_or h with ⟨hb102, h⟩ | ⟨hb102, h⟩
          · obtain ⟨p103, hp104, h⟩ := bind_some h
            refine AConf.go sys 0 103 [.kk 1 hb102, .call (fw_Tape_Bool_ok hp104), .kk 1 hb102] ?_
            exact AConf.joinN (i := ((!p103.1), p103.2)) h
          · refine AConf.go sys 0 103 [.kk 3 hb102] ?_
            exact AConf.joinN (i := (false, p71.2.2)) h
        · unfold Fw_Tape_Expr.j7 at h
          rcases ite_or h with ⟨hb77, h⟩ | ⟨hb77, h⟩
          · obtain rfl := Option.some.inj h
            refine AConf.go sys 0 103 [.k hb77] ?_
            exact AConf.fin
          · obtain ⟨p83, hp84, h⟩ := bind_some h
            refine AConf.go sys 0 103 [.k hb77, .call (fw_Tape_Bool_ok hp84)] ?_
            rcases ite_or h with ⟨hb85, h⟩ | ⟨hb85, h⟩
            · obtain ⟨p86, hp87, h⟩ := bind_some h
              obtain rfl := Option.some.inj h
              refine AConf.go sys 0 103 [.k hb85, .call (fw_Lit_ok hp87)] ?_
              exact AConf.fin
            · refine AConf.go sys 0 103 [.k hb85] ?_
              rcases ite_or h with ⟨hb93, h⟩ | ⟨hb93, h⟩
              · obtain ⟨p94, hp95, h⟩ := bind_some h
                obtain ⟨p96, hp97, h⟩ := bind_some h
                obtain rfl := Option.some.inj h
                refine AConf.go sys 0 103 [.k hb93, .call (fw_Tape_Small_ok hp95), .call (fw_Num_ok hp97)] ?_
                exact AConf.fin
              · obtain ⟨p98, hp99, h⟩ := bind_some h
                obtain ⟨p100, hp101, h⟩ := bind_some h
                obtain rfl := Option.some.inj h
                refine AConf.go sys 0 103 [.k hb93, .call (fw_Tape_Typed_ok hp99), .call (fw_Lit_ok hp101)] ?_
                exact AConf.fin
      · refine AConf.go sys 3882 102 [.k hb60] ?_
        refine AConf.join (ι := Bool) (bodyOf Tryz.f36) [0, 1, 1, 1, 1] (fun q117 => Fw_Tape_Expr.j9 k R a1 a2 a3 q9 q117 = some r) (fun (q117 : Bool) => ([(0, some (.ptr 0 0)), (2, some (pI a2)), (3, some (pI a3)), (5, some (.ptr 100 0)), (8, some (.ptr 101 0)), (9, some (pI q9.1)), (66, some (pB q117))], [(0, some (.var (GTape.pvs q9.2))), (100, some (.var (GPlace.pvs a1))), (101, some (.var [(pI 0), (pI 0), (pB false), (pI 0), (pI 0), (pS []), (pS []), (pS []), pN, pN]))])) ?_ fun q117 h => ?_
        · rcases ite_or h with ⟨hb203, h⟩ | ⟨hb203, h⟩
          · refine AConf.go sys 0 103 [.kk 2 hb203] ?_
            rcases ite_or h with ⟨hb204, h⟩ | ⟨hb204, h⟩
            · refine AConf.go sys 0 103 [.kk 2 hb204, .l GSchema.cells a1.Tables, .kk 1 hb204] ?_
              exact AConf.joinN (i := (decide (0 < (a1.Tables.length : Int)))) h
            · refine AConf.go sys 0 103 [.kk 4 hb204] ?_
              exact AConf.joinN (i := false) h
          · refine AConf.go sys 0 103 [.kk 2 hb203, .kk 4 (rfl : false = _)] ?_
            exact AConf.joinN (i := false) h
        · unfold Fw_Tape_Expr.j9 at h
          rcases ite_or h with ⟨hb118, h⟩ | ⟨hb118, h⟩
          · obtain ⟨p119, hp120, h⟩ := bind_some h
            obtain ⟨p121, hp122, h⟩ := bind_some h
            obtain rfl := Option.some.inj h
            refine AConf.go sys 0 102 [.k hb118, .call (fw_Tape_Next_ok hp120), .call (hR.rw_Tape_query hp122)] ?_
            exact AConf.fin
          · refine AConf.go sys 8235 102 [.k hb118] ?_
            refine AConf.join (ι := Bool × GTape) (bodyOf Tryz.f36) [0, 1, 1, 1, 1, 1] (fun q142 => Fw_Tape_Expr.j11 k R a1 a2 a3 q142 = some r) (fun (q142 : Bool × GTape) => ([(0, some (.ptr 0 0)), (2, some (pI a2)), (3, some (pI a3)), (5, some (.ptr 100 0)), (8, some (.ptr 101 0)), (89, some (pB q142.1))], [(0, some (.var (GTape.pvs q142.2))), (100, some (.var (GPlace.pvs a1))), (101, some (.var [(pI 0), (pI 0), (pB false), (pI 0), (pI 0), (pS []), (pS []), (pS []), pN, pN]))])) ?_ fun q142 h => ?_
            · rcases ite_or h with ⟨hb198, h⟩ | ⟨hb198, h⟩
              · refine AConf.go sys 0 103 [.kk 2 hb198] ?_
                rcases ite_or h with ⟨hb199, h⟩ | ⟨hb199, h⟩
                · refine AConf.go sys 0 103 [.kk 2 hb199, .l GSchema.cells a1.Tables, .kk 1 hb199] ?_
                  rcases ite_or h with ⟨hb200, h⟩ | ⟨hb200, h⟩
                  · obtain ⟨p201, hp202, h⟩ := bind_some h
                    refine AConf.go sys 0 103 [.kk 1 hb200, .call (fw_Tape_Bool_ok hp202), .k hb200] ?_
                    exact AConf.joinN (i := (p201.1, p201.2)) h
                  · refine AConf.go sys 0 103 [.kk 2 hb200] ?_
                    exact AConf.joinN (i := (false, (q9.2))) h
                · refine AConf.go sys 0 103 [.kk 4 hb199, .kk 2 (rfl : false = _)] ?_
                  exact AConf.joinN (i := (false, (q9.2))) h
              · refine AConf.go sys 0 103 [.kk 2 hb198, .kk 7 (rfl : false = _)] ?_
                exact AConf.joinN (i := (false, (q9.2))) h
            · unfold Fw_Tape_Expr.j11 at h
              rcases ite_or h with ⟨hb143, h⟩ | ⟨hb143, h⟩
              · obtain ⟨p144, hp145, h⟩ := bind_some h
                obtain rfl := Option.some.inj h
                refine AConf.go sys 0 102 [.k hb143, .call (hR.rw_Tape_query hp145)] ?_
                exact AConf.fin
              · refine AConf.go sys 0 102 [.k hb143] ?_
                rcases ite_or h with ⟨hb170, h⟩ | ⟨hb170, h⟩
                · obtain ⟨p176, hp177, h⟩ := bind_some h
                  refine AConf.go sys 0 102 [.k hb170, .call (fw_Tape_Bool_ok hp177)] ?_
                  rcases ite_or h with ⟨hb178, h⟩ | ⟨hb178, h⟩
                  · obtain ⟨p179, hp180, h⟩ := bind_some h
                    obtain rfl := Option.some.inj h
                    refine AConf.go sys 0 102 [.k hb178, .call (hR.rw_Tape_Expr hp180), .br false GExpr.cells_eq ([p179.1]), .frz 3401 102] ?_
                    exact AConf.fin
                  · obtain ⟨p181, hp182, h⟩ := bind_some h
                    obtain ⟨x183, hv184, h⟩ := bind_some h
                    obtain ⟨p185, hp186, h⟩ := bind_some h
                    obtain ⟨p187, hp188, h⟩ := bind_some h
                    obtain ⟨p189, hp190, h⟩ := bind_some h
                    obtain rfl := Option.some.inj h
                    refine AConf.go sys 0 102 [.k hb178, .b false cI ([9, 10, 11, 9, 12, 13]), .call (fw_Tape_Next_ok hp182), .x cI hv184, .x cI hv184, .call (hR.rw_Tape_Expr hp186), .call (hR.rw_Tape_Expr hp188), .call (fw_Bin_ok hp190)] ?_
                    exact AConf.fin
                · refine AConf.go sys 0 102 [.k hb170] ?_
                  rcases ite_or h with ⟨hb191, h⟩ | ⟨hb191, h⟩
                  · obtain ⟨p192, hp193, h⟩ := bind_some h
                    obtain rfl := Option.some.inj h
                    refine AConf.go sys 0 102 [.k hb191, .call (hR.rw_Tape_condition hp193)] ?_
                    exact AConf.fin
                  · obtain ⟨p194, hp195, h⟩ := bind_some h
                    obtain ⟨p196, hp197, h⟩ := bind_some h
                    obtain rfl := Option.some.inj h
                    refine AConf.go sys 0 102 [.k hb191, .call (fw_Tape_Typed_ok hp195), .call (fw_Lit_ok hp197)] ?_
                    exact AConf.fin
def Fw_Tape_query.j1 (a2 : Int) (x3 : GSchema) (q10 : GTape × (List GExpr)) (q16 : GTape × (List GExpr)) : Option (GExpr × GTape) :=
  (some ((GExpr.mk a2 0 false (GValue.mk 0 0 []) [] [] [] ([(GQuery.mk (decide (a2 = 8)) q10.2 x3.Name q16.2)])), (q16.1)))
def Fw_Tape_query.j0 (k : Nat) (R : Recw_Tape_Expr) (a2 : Int) (a3 : Int) (x3 : GSchema) (p5 : GPlace) (q10 : GTape × (List GExpr)) : Option (GExpr × GTape) :=
  ((Fw_Tape_Bool k (q10.1) 3).bind fun p17 => (if p17.1 = true then (Fw_Tape_query.j1 a2 x3 q10 (p17.2, ([] : List GExpr))) else ((R.rw_Tape_Expr p17.2 p5 2 (w64 (a3 - 1))).bind fun p20 => (Fw_Tape_query.j1 a2 x3 q10 (p20.2, [p20.1])))))
def Fw_Tape_queryb (k : Nat) (R : Recw_Tape_Expr) (a0 : GTape) (a1 : GPlace) (a2 : Int) (a3 : Int) : Option (GExpr × GTape) :=
  ((Fw_Tape_Next k a0 (a1.Tables.length : Int)).bind fun p1 => ((idx a1.Tables p1.1).bind fun x3 => ((Fw_Inside k a1 x3).bind fun p5 => (if decide (10 ≤ a2) = true then ((R.rw_Tape_Expr p1.2 p5 1 (w64 (a3 - 2))).bind fun p23 => (Fw_Tape_query.j0 k R a2 a3 x3 p5 (p23.2, [p23.1]))) else (Fw_Tape_query.j0 k R a2 a3 x3 p5 (p1.2, ([] : List GExpr)))))))
theorem fw_Tape_query_okb {k : Nat} {R : Recw_Tape_Expr} (hR : Recw_Tape_ExprOK R) {a0 : GTape} {a1 : GPlace} {a2 : Int} {a3 : Int} {r : GExpr × GTape} (h : Fw_Tape_queryb k R a0 a1 a2 a3 = some r) :
    ACalls Tryz.prog gl 75 [(.ptr 0 0), (.agg (GPlace.pvs a1)), (pI a2), (pI a3)] [(0, some (.var (GTape.pvs a0)))] (.agg (GExpr.pvs r.1)) [(0, some (.var (GTape.pvs r.2)))] [] := by
  refine ACalls.enter sys Tryz.func75 fun w F ν => ?_
  unfold Fw_Tape_queryb at h
  obtain ⟨p1, hp2, h⟩ := bind_some h
  obtain ⟨x3, hv4, h⟩ := bind_some h
  obtain ⟨p5, hp6, h⟩ := bind_some h
  refine AConf.go sys 8960 100 [.l GSchema.cells a1.Tables, .call (fw_Tape_Next_ok hp2), .x GSchema.cells hv4, .call (fw_Inside_ok hp6)] ?_
  refine AConf.join (ι := GTape × (List GExpr)) (bodyOf Tryz.f75) [1, 1, 1, 1] (fun q10 => Fw_Tape_query.j0 k R a2 a3 x3 p5 q10 = some r) (fun (q10 : GTape × (List GExpr)) => ([(0, some (.ptr 0 0)), (2, some (pI a2)), (3, some (pI a3)), (8, some (.ptr 101 0)), (10, some (.ptr 103 0)), (11, some (.ptr 104 0))], [(0, some (.var (GTape.pvs q10.1))), (101, some (.var [(pI 0), (pI 0), (pB false), (pI 0), (pI 0), (pS []), (pS []), (pS []), pN, pN])), (103, some (.var (GPlace.pvs p5))), (105, some (.arr false 106 10 (q10.2.map GExpr.cells))), (104, some (.var [(pB (decide (a2 = 8))), (.osl 105), (pS x3.Name), pN]))])) ?_ fun q10 h => ?_
  · rcases ite_or h with ⟨hb22, h⟩ | ⟨hb22, h⟩
    · obtain ⟨p23, hp24, h⟩ := bind_some h
      refine AConf.go sys 0 110 [.k hb22, .call (hR.rw_Tape_Expr hp24), .br false GExpr.cells_eq ([p23.1]), .kp 8 [0, 2, 3, 8, 10, 11] [0, 101, 103, 104, 110], .ren 8 110 105] ?_
      exact AConf.joinN (i := (p23.2, [p23.1])) h
    · refine AConf.go sys 0 110 [.k hb22, .kp 8841 [0, 2, 3, 8, 10, 11] [0, 101, 103, 104], .ownC 8841 false 104 1 105 106 10] ?_
      exact AConf.joinN (i := (p1.2, ([] : List GExpr))) h
  · unfold Fw_Tape_query.j0 at h
    refine AConf.go sys 3883 106 [] ?_
    refine AConf.join (ι := GTape × (List GExpr)) (bodyOf Tryz.f75) [1, 1, 1, 1, 1] (fun q16 => Fw_Tape_query.j1 a2 x3 q10 q16 = some r) (fun (q16 : GTape × (List GExpr)) => ([(2, some (pI a2)), (8, some (.ptr 101 0)), (11, some (.ptr 104 0))], [(0, some (.var (GTape.pvs q16.1))), (101, some (.var [(pI 0), (pI 0), (pB false), (pI 0), (pI 0), (pS []), (pS []), (pS []), pN, pN])), (105, some (.arr false 106 10 (q10.2.map GExpr.cells))), (107, some (.arr false 106 10 (q16.2.map GExpr.cells))), (104, some (.var [(pB (decide (a2 = 8))), (.osl 105), (pS x3.Name), (.osl 107)]))])) ?_ fun q16 h => ?_
    · obtain ⟨p17, hp18, h⟩ := bind_some h
      refine AConf.go sys 0 109 [.call (fw_Tape_Bool_ok hp18)] ?_
      rcases ite_or h with ⟨hb19, h⟩ | ⟨hb19, h⟩
      · refine AConf.go sys 0 109 [.k (notT hb19), .kp 2732 [2, 8, 11] [0, 101, 104, 105], .ownC 2732 false 104 3 107 106 10] ?_
        exact AConf.joinN (i := (p17.2, ([] : List GExpr))) h
      · obtain ⟨p20, hp21, h⟩ := bind_some h
        refine AConf.go sys 0 109 [.k (notF hb19), .call (hR.rw_Tape_Expr hp21), .br false GExpr.cells_eq ([p20.1]), .kp 8 [2, 8, 11] [0, 101, 104, 105, 109], .ren 8 109 107] ?_
        exact AConf.joinN (i := (p20.2, [p20.1])) h
    · unfold Fw_Tape_query.j1 at h
      obtain rfl := Option.some.inj h
      refine AConf.go sys 0 108 [.br false GQuery.cells_eq ([(GQuery.mk (decide (a2 = 8)) q10.2 x3.Name q16.2)]), .frz 8788 108] ?_
      exact AConf.fin
def Fw_Tape_conditionb (k : Nat) (R : Recw_Tape_Expr) (a0 : GTape) (a1 : GPlace) (a2 : Int) : Option (GExpr × GTape) :=
  ((Fw_Tape_Next k a0 3).bind fun p1 => ((Fw_Tape_Next k p1.2 6).bind fun p29 => (if decide (p29.1 = 0) = true then ((R.rw_Tape_Expr p29.2 a1 2 (w64 (a2 - 1))).bind fun p32 => (some ((GExpr.mk 3 0 false (GValue.mk 0 0 []) [] [] ([p32.1]) []), p32.2))) else (if decide (p29.1 = 1) = true then ((Fw_Tape_Next k p29.2 2).bind fun p35 => ((R.rw_Tape_Expr p35.2 a1 2 (w64 (a2 - 1))).bind fun p37 => ((R.rw_Tape_Expr p37.2 a1 2 (w64 (a2 - 1))).bind fun p39 => ((Fw_Bin k (w64 (1 + p35.1)) p37.1 p39.1).bind fun p41 => (some (p41, p39.2)))))) else (if decide (p29.1 = 2) = true then ((Fw_Tape_Bool k p29.2 2).bind fun p44 => ((R.rw_Tape_Expr p44.2 a1 (w64 (1 + p1.1)) (w64 (a2 - 1))).bind fun p46 => (some ((GExpr.mk 6 0 p44.1 (GValue.mk 0 0 []) [] [] ([p46.1]) []), p46.2)))) else (if decide (p29.1 = 3) = true then ((R.rw_Tape_Expr p29.2 a1 1 (w64 (a2 - 1))).bind fun p49 => ((R.rw_Tape_Expr p49.2 a1 1 (w64 (a2 - 1))).bind fun p51 => ((R.rw_Tape_Expr p51.2 a1 1 (w64 (a2 - 1))).bind fun p53 => (some ((GExpr.mk 7 0 false (GValue.mk 0 0 []) [] [] ([p49.1, p51.1, p53.1]) []), p53.2))))) else ((Fw_Tape_Next k p29.2 6).bind fun p55 => ((R.rw_Tape_Expr p55.2 a1 (w64 (1 + p1.1)) (w64 (a2 - 1))).bind fun p57 => ((R.rw_Tape_Expr p57.2 a1 (w64 (1 + p1.1)) (w64 (a2 - 1))).bind fun p59 => ((Fw_Bin k (w64 (3 + p55.1)) p57.1 p59.1).bind fun p61 => (some (p61, p59.2))))))))))))
theorem fw_Tape_condition_okb {k : Nat} {R : Recw_Tape_Expr} (hR : Recw_Tape_ExprOK R) {a0 : GTape} {a1 : GPlace} {a2 : Int} {r : GExpr × GTape} (h : Fw_Tape_conditionb k R a0 a1 a2 = some r) :
    ACalls Tryz.prog gl 77 [(.ptr 0 0), (.agg (GPlace.pvs a1)), (pI a2)] [(0, some (.var (GTape.pvs a0)))] (.agg (GExpr.pvs r.1)) [(0, some (.var (GTape.pvs r.2)))] [] := by
  refine ACalls.enter sys Tryz.func77 fun w F ν => ?_
  unfold Fw_Tape_conditionb at h
  obtain ⟨p1, hp2, h⟩ := bind_some h
  obtain ⟨p29, hp30, h⟩ := bind_some h
  refine AConf.go sys 0 100 [.call (fw_Tape_Next_ok hp2), .call (fw_Tape_Next_ok hp30)] ?_
  rcases ite_or h with ⟨hb31, h⟩ | ⟨hb31, h⟩
  · obtain ⟨p32, hp33, h⟩ := bind_some h
    obtain rfl := Option.some.inj h
    refine AConf.go sys 0 102 [.k hb31, .call (hR.rw_Tape_Expr hp33), .br false GExpr.cells_eq ([p32.1]), .frz 6525 102] ?_
    exact AConf.fin
  · refine AConf.go sys 0 102 [.k hb31] ?_
    rcases ite_or h with ⟨hb34, h⟩ | ⟨hb34, h⟩
    · obtain ⟨p35, hp36, h⟩ := bind_some h
      obtain ⟨p37, hp38, h⟩ := bind_some h
      obtain ⟨p39, hp40, h⟩ := bind_some h
      obtain ⟨p41, hp42, h⟩ := bind_some h
      obtain rfl := Option.some.inj h
      refine AConf.go sys 0 102 [.k hb34, .call (fw_Tape_Next_ok hp36), .call (hR.rw_Tape_Expr hp38), .call (hR.rw_Tape_Expr hp40), .call (fw_Bin_ok hp42)] ?_
      exact AConf.fin
    · refine AConf.go sys 0 102 [.k hb34] ?_
      rcases ite_or h with ⟨hb43, h⟩ | ⟨hb43, h⟩
      · obtain ⟨p44, hp45, h⟩ := bind_some h
        obtain ⟨p46, hp47, h⟩ := bind_some h
        obtain rfl := Option.some.inj h
        refine AConf.go sys 0 102 [.k hb43, .call (fw_Tape_Bool_ok hp45), .call (hR.rw_Tape_Expr hp47), .br false GExpr.cells_eq ([p46.1]), .frz 8649 102] ?_
        exact AConf.fin
      · refine AConf.go sys 0 102 [.k hb43] ?_
        rcases ite_or h with ⟨hb48, h⟩ | ⟨hb48, h⟩
        · obtain ⟨p49, hp50, h⟩ := bind_some h
          obtain ⟨p51, hp52, h⟩ := bind_some h
          obtain ⟨p53, hp54, h⟩ := bind_some h
          obtain rfl := Option.some.inj h
          refine AConf.go sys 0 102 [.k hb48, .call (hR.rw_Tape_Expr hp50), .call (hR.rw_Tape_Expr hp52), .call (hR.rw_Tape_Expr hp54), .br false GExpr.cells_eq ([p49.1, p51.1, p53.1]), .frz 3334 102] ?_
          exact AConf.fin
        · obtain ⟨p55, hp56, h⟩ := bind_some h
          obtain ⟨p57, hp58, h⟩ := bind_some h
          obtain ⟨p59, hp60, h⟩ := bind_some h
          obtain ⟨p61, hp62, h⟩ := bind_some h
          obtain rfl := Option.some.inj h
          refine AConf.go sys 0 102 [.k hb48, .call (fw_Tape_Next_ok hp56), .call (hR.rw_Tape_Expr hp58), .call (hR.rw_Tape_Expr hp60), .call (fw_Bin_ok hp62)] ?_
          exact AConf.fin
def recw_Tape_Expr (k : Nat) : Nat → Recw_Tape_Expr
  | 0 => ⟨fun _ _ _ _ => none, fun _ _ _ _ => none, fun _ _ _ => none⟩
  | n + 1 => ⟨Fw_Tape_Exprb k (recw_Tape_Expr k n), Fw_Tape_queryb k (recw_Tape_Expr k n), Fw_Tape_conditionb k (recw_Tape_Expr k n)⟩
theorem recw_Tape_Expr_ok (k : Nat) : ∀ n, Recw_Tape_ExprOK (recw_Tape_Expr k n)
  | 0 => ⟨fun h => absurd (show none = some _ from h) nofun, fun h => absurd (show none = some _ from h) nofun, fun h => absurd (show none = some _ from h) nofun⟩
  | n + 1 => ⟨fun h => fw_Tape_Expr_okb (k := k) (recw_Tape_Expr_ok k n) h, fun h => fw_Tape_query_okb (k := k) (recw_Tape_Expr_ok k n) h, fun h => fw_Tape_condition_okb (k := k) (recw_Tape_Expr_ok k n) h⟩
def Fw_Tape_Expr (k : Nat) (a0 : GTape) (a1 : GPlace) (a2 : Int) (a3 : Int) : Option (GExpr × GTape) := Fw_Tape_Exprb k (recw_Tape_Expr k k) a0 a1 a2 a3
theorem fw_Tape_Expr_ok {k : Nat} {a0 : GTape} {a1 : GPlace} {a2 : Int} {a3 : Int} {r : GExpr × GTape} (h : Fw_Tape_Expr k a0 a1 a2 a3 = some r) : ACalls Tryz.prog gl 36 [(.ptr 0 0), (.agg (GPlace.pvs a1)), (pI a2), (pI a3)] [(0, some (.var (GTape.pvs a0)))] (.agg (GExpr.pvs r.1)) [(0, some (.var (GTape.pvs r.2)))] [] := fw_Tape_Expr_okb (k := k) (recw_Tape_Expr_ok k k) h
def Fw_Tape_query (k : Nat) (a0 : GTape) (a1 : GPlace) (a2 : Int) (a3 : Int) : Option (GExpr × GTape) := Fw_Tape_queryb k (recw_Tape_Expr k k) a0 a1 a2 a3
theorem fw_Tape_query_ok {k : Nat} {a0 : GTape} {a1 : GPlace} {a2 : Int} {a3 : Int} {r : GExpr × GTape} (h : Fw_Tape_query k a0 a1 a2 a3 = some r) : ACalls Tryz.prog gl 75 [(.ptr 0 0), (.agg (GPlace.pvs a1)), (pI a2), (pI a3)] [(0, some (.var (GTape.pvs a0)))] (.agg (GExpr.pvs r.1)) [(0, some (.var (GTape.pvs r.2)))] [] := fw_Tape_query_okb (k := k) (recw_Tape_Expr_ok k k) h
def Fw_Tape_condition (k : Nat) (a0 : GTape) (a1 : GPlace) (a2 : Int) : Option (GExpr × GTape) := Fw_Tape_conditionb k (recw_Tape_Expr k k) a0 a1 a2
theorem fw_Tape_condition_ok {k : Nat} {a0 : GTape} {a1 : GPlace} {a2 : Int} {r : GExpr × GTape} (h : Fw_Tape_condition k a0 a1 a2 = some r) : ACalls Tryz.prog gl 77 [(.ptr 0 0), (.agg (GPlace.pvs a1)), (pI a2)] [(0, some (.var (GTape.pvs a0)))] (.agg (GExpr.pvs r.1)) [(0, some (.var (GTape.pvs r.2)))] [] := fw_Tape_condition_okb (k := k) (recw_Tape_Expr_ok k k) h

-- (*triggerstore/triggerstoreworld.Tape).copies
def Fw_Tape_copies.j5 (s175 : GTape × (List GExpr)) (q193 : GTape × Int × Int × Bool × Int × Int × (List UInt8) × (List UInt8) × (List UInt8) × (List GExpr) × (List GQuery)) : Option (Go.Ab.Step (GQuery × GTape) (GTape × (List GExpr))) :=
  ((app 136 s175.2 ([(GExpr.mk q193.2.1 q193.2.2.1 q193.2.2.2.1 (GValue.mk q193.2.2.2.2.1 q193.2.2.2.2.2.1 q193.2.2.2.2.2.2.1) q193.2.2.2.2.2.2.2.1 q193.2.2.2.2.2.2.2.2.1 q193.2.2.2.2.2.2.2.2.2.1 q193.2.2.2.2.2.2.2.2.2.2)])).bind fun l194 => (some (.cont ((q193.1), l194))))
def Fw_Tape_copies.b1 (k : Nat) (a3 : Int) (p5 : GPlace) (x177 : GColumn) (i176 : Nat) (s175 : GTape × (List GExpr)) : Option (Go.Ab.Step (GQuery × GTape) (GTape × (List GExpr))) :=
  ((Fw_Tape_Expr k (s175.1) p5 x177.Typ a3).bind fun p179 => (if x177.Key = true then ((slc p5.Frames (w64 ((p5.Frames.length : Int) - 1)) (p5.Frames.length : Int)).bind fun v197 => ((Fw_Tape_column k p179.2 (GPlace.mk v197 []) 1).bind fun p199 => (if p199.2.1 = true then ((Fw_Tape_Next k p199.2.2 20).bind fun p202 => ((Fw_Num k (w64 (10 + p202.1))).bind fun p204 => ((Fw_Bin k 9 p199.1 p204).bind fun p206 => (Fw_Tape_copies.j5 s175 (p202.2, p206.Kind, p206.Op, p206.Not, p206.Value.Kind, p206.Value.Int, p206.Value.Text, p206.Table, p206.Name, p206.Args, p206.Sub))))) else (Fw_Tape_copies.j5 s175 (p199.2.2, p179.1.Kind, p179.1.Op, p179.1.Not, p179.1.Value.Kind, p179.1.Value.Int, p179.1.Value.Text, p179.1.Table, p179.1.Name, p179.1.Args, p179.1.Sub))))) else (Fw_Tape_copies.j5 s175 (p179.2, p179.1.Kind, p179.1.Op, p179.1.Not, p179.1.Value.Kind, p179.1.Value.Int, p179.1.Value.Text, p179.1.Table, p179.1.Name, p179.1.Args, p179.1.Sub))))
def Fw_Tape_copies.j6 (x3 : GSchema) (s208 : GTape × (List GExpr)) (q214 : GTape × (List GExpr)) : Option (GQuery × GTape) :=
  (some ((GQuery.mk false s208.2 x3.Name q214.2), (q214.1)))
def Fw_Tape_copies (k : Nat) (a0 : GTape) (a1 : GPlace) (a2 : GSchema) (a3 : Int) : Option (GQuery × GTape) :=
  ((Fw_Tape_Next k a0 (a1.Tables.length : Int)).bind fun p1 => ((idx a1.Tables p1.1).bind fun x3 => ((Fw_Inside k a1 x3).bind fun p5 => ((loopL (Fw_Tape_copies.b1 k a3 p5) a2.Columns 0 (p1.2, ([] : List GExpr))).bind fun out => Out.el out (fun r0 => some r0) fun s208 => ((Fw_Tape_Bool k (s208.1) 2).bind fun p215 => (if p215.1 = true then ((Fw_Tape_Expr k p215.2 p5 2 a3).bind fun p218 => (Fw_Tape_copies.j6 x3 s208 (p218.2, [p218.1]))) else (Fw_Tape_copies.j6 x3 s208 (p215.2, ([] : List GExpr)))))))))
theorem fw_Tape_copies_ok {k : Nat} {a0 : GTape} {a1 : GPlace} {a2 : GSchema} {a3 : Int} {r : GQuery × GTape} (h : Fw_Tape_copies k a0 a1 a2 a3 = some r) :
    ACalls Tryz.prog gl 109 [(.ptr 0 0), (.agg (GPlace.pvs a1)), (.agg (GSchema.pvs a2)), (pI a3)] [(0, some (.var (GTape.pvs a0)))] (.agg (GQuery.pvs r.1)) [(0, some (.var (GTape.pvs r.2)))] [] := by
  refine ACalls.enter sys Tryz.func109 fun w F ν => ?_
  unfold Fw_Tape_copies at h
  obtain ⟨p1, hp2, h⟩ := bind_some h
  obtain ⟨x3, hv4, h⟩ := bind_some h
  obtain ⟨p5, hp6, h⟩ := bind_some h
  refine AConf.go sys 0 100 [.l GSchema.cells a1.Tables, .call (fw_Tape_Next_ok hp2), .x GSchema.cells hv4, .call (fw_Inside_ok hp6), .l GColumn.cells a2.Columns, .ownC 8229 false 105 1 120 106 10] ?_
  refine AConf.range (bodyOf Tryz.f109) [1, 0, 1, 1, 1, 1] (fun (s175 : GTape × (List GExpr)) => ([(0, some (.ptr 0 0)), (3, some (pI a3)), (8, some (.ptr 102 0)), (10, some (.ptr 104 0)), (11, some (.ptr 105 0)), (33, some (pL GColumn.cells a2.Columns)), (34, some (pI (a2.Columns.length : Int)))], [(0, some (.var (GTape.pvs s175.1))), (102, some (.var [(pB false), pN, (pS []), pN])), (104, some (.var (GPlace.pvs p5))), (120, some (.arr false 106 10 (s175.2.map GExpr.cells))), (105, some (.var [(pB false), (.osl 120), (pS x3.Name), pN]))])) (bR 33 GColumn.cells) h (fun _ h => h.symm) (fun s208 h => ?_) (fun i176 x177 s175 o174 hx178 h hrt => ?_)
  · refine AConf.go sys 3883 127 [] ?_
    refine AConf.join (ι := GTape × (List GExpr)) (bodyOf Tryz.f109) [1, 1, 1, 1, 1] (fun q214 => Fw_Tape_copies.j6 x3 s208 q214 = some r) (fun (q214 : GTape × (List GExpr)) => ([(8, some (.ptr 102 0)), (11, some (.ptr 105 0))], [(0, some (.var (GTape.pvs q214.1))), (102, some (.var [(pB false), pN, (pS []), pN])), (120, some (.arr false 106 10 (s208.2.map GExpr.cells))), (127, some (.arr false 106 10 (q214.2.map GExpr.cells))), (105, some (.var [(pB false), (.osl 120), (pS x3.Name), (.osl 127)]))])) ?_ fun q214 h => ?_
    · obtain ⟨p215, hp216, h⟩ := bind_some h
      refine AConf.go sys 0 128 [.call (fw_Tape_Bool_ok hp216)] ?_
      rcases ite_or h with ⟨hb217, h⟩ | ⟨hb217, h⟩
      · obtain ⟨p218, hp219, h⟩ := bind_some h
        refine AConf.go sys 0 128 [.k hb217, .call (fw_Tape_Expr_ok hp219), .br false GExpr.cells_eq ([p218.1]), .kp 7 [8, 11] [0, 102, 105, 120, 128], .ren 7 128 127] ?_
        exact AConf.joinN (i := (p218.2, [p218.1])) h
      · refine AConf.go sys 0 128 [.k hb217, .kp 2732 [8, 11] [0, 102, 105, 120], .ownC 2732 false 105 3 127 106 10] ?_
        exact AConf.joinN (i := (p215.2, ([] : List GExpr))) h
    · unfold Fw_Tape_copies.j6 at h
      obtain rfl := Option.some.inj h
      refine AConf.go sys 0 128 [.frz 8788 120, .frz 8788 127] ?_
      exact AConf.fin
  · unfold Fw_Tape_copies.b1 at h
    obtain ⟨p179, hp180, h⟩ := bind_some h
    refine AConf.go sys 7772 121 [.e GColumn.cells hx178, .call (fw_Tape_Expr_ok hp180)] ?_
    refine AConf.join (ι := GTape × Int × Int × Bool × Int × Int × (List UInt8) × (List UInt8) × (List UInt8) × (List GExpr) × (List GQuery)) (bodyOf Tryz.f109) [1, 1, 9, 1, 0, 1, 1, 1, 1] (fun q193 => Fw_Tape_copies.j5 s175 q193 = some o174) (fun (q193 : GTape × Int × Int × Bool × Int × Int × (List UInt8) × (List UInt8) × (List UInt8) × (List GExpr) × (List GQuery)) => ([(0, some (.ptr 0 0)), (3, some (pI a3)), (8, some (.ptr 102 0)), (10, some (.ptr 104 0)), (11, some (.ptr 105 0)), (14, some (.ptr 122 0)), (33, some (pL GColumn.cells a2.Columns)), (34, some (pI (a2.Columns.length : Int))), (35, some (pI (i176 : Int)))], [(0, some (.var (GTape.pvs q193.1))), (102, some (.var [(pB false), pN, (pS []), pN])), (104, some (.var (GPlace.pvs p5))), (120, some (.arr false 106 10 (s175.2.map GExpr.cells))), (105, some (.var [(pB false), (.osl 120), (pS x3.Name), pN])), (122, some (.var [(pI q193.2.1), (pI q193.2.2.1), (pB q193.2.2.2.1), (pI q193.2.2.2.2.1), (pI q193.2.2.2.2.2.1), (pS q193.2.2.2.2.2.2.1), (pS q193.2.2.2.2.2.2.2.1), (pS q193.2.2.2.2.2.2.2.2.1), (pL GExpr.cells q193.2.2.2.2.2.2.2.2.2.1), (pL GQuery.cells q193.2.2.2.2.2.2.2.2.2.2)]))])) ?_ fun q193 h => ?_
    · rcases ite_or h with ⟨hb196, h⟩ | ⟨hb196, h⟩
      · obtain ⟨v197, hv198, h⟩ := bind_some h
        obtain ⟨p199, hp200, h⟩ := bind_some h
        refine AConf.go sys 0 126 [.k hb196, .l GFrame.cells p5.Frames, .s0 GFrame.cells_len hv198, .call (fw_Tape_column_ok hp200)] ?_
        rcases ite_or h with ⟨hb201, h⟩ | ⟨hb201, h⟩
        · obtain ⟨p202, hp203, h⟩ := bind_some h
          obtain ⟨p204, hp205, h⟩ := bind_some h
          obtain ⟨p206, hp207, h⟩ := bind_some h
          refine AConf.go sys 0 127 [.k hb201, .call (fw_Tape_Next_ok hp203), .call (fw_Num_ok hp205), .call (fw_Bin_ok hp207)] ?_
          exact AConf.joinN (i := (p202.2, p206.Kind, p206.Op, p206.Not, p206.Value.Kind, p206.Value.Int, p206.Value.Text, p206.Table, p206.Name, p206.Args, p206.Sub)) h
        · refine AConf.go sys 0 127 [.k hb201] ?_
          exact AConf.joinN (i := (p199.2.2, p179.1.Kind, p179.1.Op, p179.1.Not, p179.1.Value.Kind, p179.1.Value.Int, p179.1.Value.Text, p179.1.Table, p179.1.Name, p179.1.Args, p179.1.Sub)) h
      · refine AConf.go sys 0 126 [.k hb196] ?_
        exact AConf.joinN (i := (p179.2, p179.1.Kind, p179.1.Op, p179.1.Not, p179.1.Value.Kind, p179.1.Value.Int, p179.1.Value.Text, p179.1.Table, p179.1.Name, p179.1.Args, p179.1.Sub)) h
    · unfold Fw_Tape_copies.j5 at h
      obtain ⟨l194, hv195, h⟩ := bind_some h
      refine AConf.go sys 0 124 [.br false GExpr.cells_eq ([(GExpr.mk q193.2.1 q193.2.2.1 q193.2.2.2.1 (GValue.mk q193.2.2.2.2.1 q193.2.2.2.2.2.1 q193.2.2.2.2.2.2.1) q193.2.2.2.2.2.2.2.1 q193.2.2.2.2.2.2.2.2.1 q193.2.2.2.2.2.2.2.2.2.1 q193.2.2.2.2.2.2.2.2.2.2)]), .a false GExpr.cells_len hv195, .kp 7 [0, 3, 8, 10, 11, 33, 34, 35] [0, 102, 104, 105, 125], .ren 7 125 120] ?_
      exact AConf.rngC h

-- (*triggerstore/triggerstoreworld.Tape).Table
def Fw_Tape_Table (k : Nat) (a0 : GTape) : Option ((List UInt8) × GTape) :=
  ((Fw_Tape_Next k a0 3).bind fun p1 => ((idx ([[116], [117], [108, 111, 103]]) p1.1).bind fun x3 => (some (x3, p1.2))))
theorem fw_Tape_Table_ok {k : Nat} {a0 : GTape} {r : (List UInt8) × GTape} (h : Fw_Tape_Table k a0 = some r) :
    ACalls Tryz.prog gl 32 [(.ptr 0 0)] [(0, some (.var (GTape.pvs a0)))] (pS r.1) [(0, some (.var (GTape.pvs r.2)))] [] := by
  refine ACalls.enter sys Tryz.func32 fun w F ν => ?_
  unfold Fw_Tape_Table at h
  obtain ⟨p1, hp2, h⟩ := bind_some h
  obtain ⟨x3, hv4, h⟩ := bind_some h
  obtain rfl := Option.some.inj h
  refine AConf.go sys 0 100 [.b false cS ([[116], [117], [108, 111, 103]]), .call (fw_Tape_Next_ok hp2), .x cS hv4, .x cS hv4] ?_
  exact AConf.fin

-- (*triggerstore/triggerstoreworld.Tape).Change
def Fw_Tape_Change.j97 (p3 : GSchema) (p7 : Int × GTape) (q2538 : GTape × (List GSet)) (q2544 : GTape × (List GExpr)) : Option (GAction × GTape) :=
  (some ((GAction.mk (w64 (1 + p7.1)) p3.Name [] [] q2538.2 q2544.2 []), (q2544.1)))
def Fw_Tape_Change.j96 (k : Nat) (a2 : Int) (p3 : GSchema) (p5 : GPlace) (p7 : Int × GTape) (q2538 : GTape × (List GSet)) : Option (GAction × GTape) :=
  ((Fw_Tape_Bool k (q2538.1) 4).bind fun p2545 => (if p2545.1 = true then (Fw_Tape_Change.j97 p3 p7 q2538 (p2545.2, ([] : List GExpr))) else ((Fw_Tape_Expr k p2545.2 p5 2 a2).bind fun p2548 => (Fw_Tape_Change.j97 p3 p7 q2538 (p2548.2, [p2548.1])))))
def Fw_Tape_Change.j169 (k : Nat) (a1 : GPlace) (a2 : Int) (s4714 : (List GExpr) × GTape) (x4716 : GColumn) (q4721 : Bool × GTape) : Option (Go.Ab.Step (GAction × GTape) ((List GExpr) × GTape)) :=
  (if q4721.1 = true then ((Fw_Tape_Typed k (q4721.2) x4716.Typ).bind fun p4723 => ((Fw_Lit k p4723.1).bind fun p4725 => ((app 136 s4714.1 ([p4725])).bind fun l4727 => (if decide (x4716.Typ = 1) = true then ((Fw_Tape_Small k p4723.2).bind fun p4730 => ((Fw_Num k p4730.1).bind fun p4732 => ((idx l4727 (w64 ((l4727.length : Int) - 1))).bind fun x4734 => (some (.cont ((l4727.set (((w64 ((l4727.length : Int) - 1)) : Int).toNat) p4732), p4730.2)))))) else (some (.cont (l4727, p4723.2))))))) else ((Fw_Tape_Expr k (q4721.2) a1 x4716.Typ a2).bind fun p4736 => ((app 136 s4714.1 ([p4736.1])).bind fun l4738 => (some (.cont (l4738, p4736.2))))))
def Fw_Tape_Change.b51 (k : Nat) (a1 : GPlace) (a2 : Int) (x4716 : GColumn) (i4715 : Nat) (s4714 : (List GExpr) × GTape) : Option (Go.Ab.Step (GAction × GTape) ((List GExpr) × GTape)) :=
  (if x4716.Key = true then (Fw_Tape_Change.j169 k a1 a2 s4714 x4716 (true, (s4714.2))) else ((Fw_Tape_Bool k (s4714.2) 3).bind fun p4741 => (Fw_Tape_Change.j169 k a1 a2 s4714 x4716 (p4741.1, p4741.2))))
def Fw_Tape_Change.b52 (k : Nat) (a1 : GPlace) (a2 : Int) (p3 : GSchema) (s4383 : Int × GTape × (List (List GExpr))) : Option (Go.Ab.Step (GAction × GTape) (Int × GTape × (List (List GExpr)))) :=
  (if decide (0 < s4383.1) = true then ((loopL (Fw_Tape_Change.b51 k a1 a2) p3.Columns 0 (([] : List GExpr), (s4383.2.1))).bind fun out => Out.el out (fun r0 => some (.ret r0)) fun s4743 => ((app 24 s4383.2.2 ([s4743.1])).bind fun l4744 => (some (.cont (w64 (s4383.1 - 1), (s4743.2), l4744))))) else (some (.brk (s4383.1, (s4383.2.1), s4383.2.2))))
def Fw_Tape_Change.j192 (s4969 : Int × GTape × (List GSet)) (x5032 : GColumn) (q5054 : GTape × Int × Int × Bool × Int × Int × (List UInt8) × (List UInt8) × (List UInt8) × (List GExpr) × (List GQuery)) : Option (Go.Ab.Step (GAction × GTape) (Int × GTape × (List GSet))) :=
  ((app 152 s4969.2.2 ([(GSet.mk x5032.Name (GExpr.mk q5054.2.1 q5054.2.2.1 q5054.2.2.2.1 (GValue.mk q5054.2.2.2.2.1 q5054.2.2.2.2.2.1 q5054.2.2.2.2.2.2.1) q5054.2.2.2.2.2.2.2.1 q5054.2.2.2.2.2.2.2.2.1 q5054.2.2.2.2.2.2.2.2.2.1 q5054.2.2.2.2.2.2.2.2.2.2))])).bind fun l5055 => (some (.cont (w64 (s4969.1 + 1), (q5054.1), l5055))))
def Fw_Tape_Change.j193 (k : Nat) (s4969 : Int × GTape × (List GSet)) (x5032 : GColumn) (p5034 : GExpr × GTape) (q5060 : Bool × GTape) : Option (Go.Ab.Step (GAction × GTape) (Int × GTape × (List GSet))) :=
  (if q5060.1 = true then ((Fw_Tape_Next k (q5060.2) 2).bind fun p5062 => ((Fw_Col k [] x5032.Name).bind fun p5064 => ((Fw_Tape_Next k p5062.2 4).bind fun p5066 => ((Fw_Num k p5066.1).bind fun p5068 => ((Fw_Bin k (w64 (9 + p5062.1)) p5064 p5068).bind fun p5070 => (Fw_Tape_Change.j192 s4969 x5032 (p5066.2, p5070.Kind, p5070.Op, p5070.Not, p5070.Value.Kind, p5070.Value.Int, p5070.Value.Text, p5070.Table, p5070.Name, p5070.Args, p5070.Sub))))))) else (Fw_Tape_Change.j192 s4969 x5032 ((q5060.2), p5034.1.Kind, p5034.1.Op, p5034.1.Not, p5034.1.Value.Kind, p5034.1.Value.Int, p5034.1.Value.Text, p5034.1.Table, p5034.1.Name, p5034.1.Args, p5034.1.Sub)))
def Fw_Tape_Change.j187 (k : Nat) (a2 : Int) (p3 : GSchema) (p5 : GPlace) (p4748 : Int × GTape) (s4969 : Int × GTape × (List GSet)) (q4981 : Bool × GTape) : Option (Go.Ab.Step (GAction × GTape) (Int × GTape × (List GSet))) :=
  (if q4981.1 = true then ((rem (w64 (p4748.1 + s4969.1)) (p3.Columns.length : Int)).bind fun v5029 => ((idx p3.Columns v5029).bind fun x5032 => ((Fw_Tape_Expr k (q4981.2) p5 x5032.Typ a2).bind fun p5034 => (if decide (x5032.Typ = 1) = true then ((Fw_Tape_Bool k p5034.2 2).bind fun p5073 => (Fw_Tape_Change.j193 k s4969 x5032 p5034 (p5073.1, p5073.2))) else (Fw_Tape_Change.j193 k s4969 x5032 p5034 (false, p5034.2)))))) else (some (.brk (s4969.1, (q4981.2), s4969.2.2))))
def Fw_Tape_Change.b53 (k : Nat) (a2 : Int) (p3 : GSchema) (p5 : GPlace) (p4748 : Int × GTape) (s4969 : Int × GTape × (List GSet)) : Option (Go.Ab.Step (GAction × GTape) (Int × GTape × (List GSet))) :=
  ((Fw_Tape_Next k (s4969.2.1) 2).bind fun p5075 => (if decide (s4969.1 < (w64 (1 + p5075.1))) = true then (Fw_Tape_Change.j187 k a2 p3 p5 p4748 s4969 (decide (s4969.1 < (p3.Columns.length : Int)), p5075.2)) else (Fw_Tape_Change.j187 k a2 p3 p5 p4748 s4969 (false, p5075.2))))
def Fw_Tape_Change (k : Nat) (a0 : GTape) (a1 : GPlace) (a2 : Int) : Option (GAction × GTape) :=
  ((Fw_Tape_Table k a0).bind fun p1 => ((Fw_Schema k p1.1).bind fun p3 => ((Fw_Inside k a1 p3).bind fun p5 => ((Fw_Tape_Next k p1.2 3).bind fun p7 => (if decide ((w64 (1 + p7.1)) = 1) = true then ((Fw_Tape_Bool k p7.2 4).bind fun p2556 => (if p2556.1 = true then ((Fw_Tape_copies k p2556.2 a1 p3 a2).bind fun p2559 => (some ((GAction.mk (w64 (1 + p7.1)) p3.Name [] ([p2559.1]) [] [] []), p2559.2))) else ((Fw_Tape_Next k p2556.2 3).bind fun p3654 => ((loopN (Fw_Tape_Change.b52 k a1 a2 p3) k (w64 (1 + p3654.1), p3654.2, ([] : List (List GExpr)))).bind fun out => Out.el out (fun r0 => some r0) fun s4746 => (some ((GAction.mk (w64 (1 + p7.1)) p3.Name s4746.2.2 [] [] [] []), (s4746.2.1))))))) else (if decide ((w64 (1 + p7.1)) = 2) = true then ((Fw_Tape_Next k p7.2 (p3.Columns.length : Int)).bind fun p4748 => ((loopN (Fw_Tape_Change.b53 k a2 p3 p5 p4748) k (0, p4748.2, ([] : List GSet))).bind fun out => Out.el out (fun r0 => some r0) fun s5078 => (Fw_Tape_Change.j96 k a2 p3 p5 p7 ((s5078.2.1), s5078.2.2)))) else (Fw_Tape_Change.j96 k a2 p3 p5 p7 (p7.2, ([] : List GSet)))))))))
theorem fw_Tape_Change_ok {k : Nat} {a0 : GTape} {a1 : GPlace} {a2 : Int} {r : GAction × GTape} (h : Fw_Tape_Change k a0 a1 a2 = some r) :
    ACalls Tryz.prog gl 82 [(.ptr 0 0), (.agg (GPlace.pvs a1)), (pI a2)] [(0, some (.var (GTape.pvs a0)))] (.agg (GAction.pvs r.1)) [(0, some (.var (GTape.pvs r.2)))] [] := by
  refine ACalls.enter sys Tryz.func82 fun w F ν => ?_
  unfold Fw_Tape_Change at h
  obtain ⟨p1, hp2, h⟩ := bind_some h
  obtain ⟨p3, hp4, h⟩ := bind_some h
  obtain ⟨p5, hp6, h⟩ := bind_some h
  obtain ⟨p7, hp8, h⟩ := bind_some h
  refine AConf.go sys 8960 100 [.call (fw_Tape_Table_ok hp2), .call (fw_Schema_ok hp4), .call (fw_Inside_ok hp6), .call (fw_Tape_Next_ok hp8)] ?_
  refine AConf.join (ι := GTape × (List GSet)) (bodyOf Tryz.f82) [1, 1, 1, 1] (fun q2538 => Fw_Tape_Change.j96 k a2 p3 p5 p7 q2538 = some r) (fun (q2538 : GTape × (List GSet)) => ([(0, some (.ptr 0 0)), (2, some (pI a2)), (6, some (.ptr 101 0)), (8, some (.ptr 103 0)), (9, some (.ptr 104 0))], [(0, some (.var (GTape.pvs q2538.1))), (101, some (.var [(pI 0), (pS []), pN, pN, pN, pN, (pS [])])), (103, some (.var (GPlace.pvs p5))), (115, some (.arr true 156 11 (q2538.2.map GSet.cells))), (104, some (.var [(pI (w64 (1 + p7.1))), (pS p3.Name), pN, pN, (.osl 115), pN, (pS [])]))])) ?_ fun q2538 h => ?_
  · rcases ite_or h with ⟨hb2550, h⟩ | ⟨hb2550, h⟩
    · obtain ⟨p2556, hp2557, h⟩ := bind_some h
      refine AConf.go sys 0 153 [.k hb2550, .call (fw_Tape_Bool_ok hp2557)] ?_
      rcases ite_or h with ⟨hb2558, h⟩ | ⟨hb2558, h⟩
      · obtain ⟨p2559, hp2560, h⟩ := bind_some h
        obtain rfl := Option.some.inj h
        refine AConf.go sys 0 153 [.k hb2558, .call (fw_Tape_copies_ok hp2560), .br true GQuery.cells_eq ([p2559.1]), .frz 8388 153] ?_
        refine AConf.joinR ?_
        exact AConf.fin
      · obtain ⟨p3654, hp3655, h⟩ := bind_some h
        refine AConf.go sys 0 153 [.k hb2558, .call (fw_Tape_Next_ok hp3655), .ownC 1675 true 104 2 183 37 1] ?_
        refine AConf.rounds (bodyOf Tryz.f82) [1, 0, 1, 4, 1, 3, 1, 2, 1, 1, 1, 1] (fun (s4383 : Int × GTape × (List (List GExpr))) => ([(0, some (.ptr 0 0)), (2, some (pI a2)), (4, some (.ptr 100 0)), (6, some (.ptr 101 0)), (7, some (.ptr 102 0)), (8, some (.ptr 103 0)), (9, some (.ptr 104 0)), (10, some (pI s4383.1))], [(0, some (.var (GTape.pvs s4383.2.1))), (100, some (.var (GPlace.pvs a1))), (101, some (.var [(pI 0), (pS []), pN, pN, pN, pN, (pS [])])), (102, some (.var (GSchema.pvs p3))), (103, some (.var (GPlace.pvs p5))), (183, some (.arr true 37 1 (s4383.2.2.map (cL GExpr.cells)))), (104, some (.var [(pI (w64 (1 + p7.1))), (pS p3.Name), (.osl 183), pN, pN, pN, (pS [])]))])) h (fun _ h => h.symm) (fun s4746 h => ?_) (fun s4383 o4382 h hrt => ?_)
        · obtain rfl := Option.some.inj h
          refine AConf.go sys 0 198 [.frz 1682 183] ?_
          refine AConf.joinR ?_
          exact AConf.fin
        · unfold Fw_Tape_Change.b52 at h
          rcases ite_or h with ⟨hb4385, h⟩ | ⟨hb4385, h⟩
          · refine AConf.go sys 0 184 [.k hb4385, .l GColumn.cells p3.Columns, .ownR 9328 true 11 192 106 10] ?_
            refine AConf.range (bodyOf Tryz.f82) [1, 0, 1, 3, 0, 1, 8, 1, 0, 1, 4, 1, 3, 1, 2, 1, 1, 1, 1] (fun (s4714 : (List GExpr) × GTape) => ([(0, some (.ptr 0 0)), (2, some (pI a2)), (4, some (.ptr 100 0)), (6, some (.ptr 101 0)), (7, some (.ptr 102 0)), (8, some (.ptr 103 0)), (9, some (.ptr 104 0)), (10, some (pI s4383.1)), (11, some (.osl 192)), (52, some (pL GColumn.cells p3.Columns)), (53, some (pI (p3.Columns.length : Int)))], [(192, some (.arr true 106 10 (s4714.1.map GExpr.cells))), (0, some (.var (GTape.pvs s4714.2))), (100, some (.var (GPlace.pvs a1))), (101, some (.var [(pI 0), (pS []), pN, pN, pN, pN, (pS [])])), (102, some (.var (GSchema.pvs p3))), (103, some (.var (GPlace.pvs p5))), (183, some (.arr true 37 1 (s4383.2.2.map (cL GExpr.cells)))), (104, some (.var [(pI (w64 (1 + p7.1))), (pS p3.Name), (.osl 183), pN, pN, pN, (pS [])]))])) (bR 52 GColumn.cells) h hrt (fun s4743 h => ?_) (fun i4715 x4716 s4714 o4713 hx4717 h hrt => ?_)
            · obtain ⟨l4744, hv4745, h⟩ := bind_some h
              refine AConf.go sys 0 196 [.rd 4040 192, .b true (cL GExpr.cells) ([s4743.1]), .a true (f := (cL GExpr.cells)) (sz := 1) (fun _ => rfl) hv4745, .kp 3 [0, 2, 4, 6, 7, 8, 9, 10] [0, 100, 101, 102, 103, 104, 197], .ren 3 197 183] ?_
              exact AConf.stpC h
            · unfold Fw_Tape_Change.b51 at h
              refine AConf.go sys 6378 193 [.e GColumn.cells hx4717] ?_
              refine AConf.join (ι := Bool × GTape) (bodyOf Tryz.f82) [1, 9, 1, 0, 1, 3, 0, 1, 8, 1, 0, 1, 4, 1, 3, 1, 2, 1, 1, 1, 1] (fun q4721 => Fw_Tape_Change.j169 k a1 a2 s4714 x4716 q4721 = some o4713) (fun (q4721 : Bool × GTape) => ([(0, some (.ptr 0 0)), (2, some (pI a2)), (4, some (.ptr 100 0)), (6, some (.ptr 101 0)), (7, some (.ptr 102 0)), (8, some (.ptr 103 0)), (9, some (.ptr 104 0)), (10, some (pI s4383.1)), (11, some (.osl 192)), (13, some (.ptr 193 0)), (52, some (pL GColumn.cells p3.Columns)), (53, some (pI (p3.Columns.length : Int))), (54, some (pI (i4715 : Int))), (63, some (pB q4721.1))], [(192, some (.arr true 106 10 (s4714.1.map GExpr.cells))), (0, some (.var (GTape.pvs q4721.2))), (100, some (.var (GPlace.pvs a1))), (101, some (.var [(pI 0), (pS []), pN, pN, pN, pN, (pS [])])), (102, some (.var (GSchema.pvs p3))), (103, some (.var (GPlace.pvs p5))), (183, some (.arr true 37 1 (s4383.2.2.map (cL GExpr.cells)))), (104, some (.var [(pI (w64 (1 + p7.1))), (pS p3.Name), (.osl 183), pN, pN, pN, (pS [])])), (193, some (.var (GColumn.pvs x4716)))])) ?_ fun q4721 h => ?_
              · rcases ite_or h with ⟨hb4740, h⟩ | ⟨hb4740, h⟩
                · refine AConf.go sys 0 196 [.kk 2 hb4740] ?_
                  exact AConf.joinN (i := (true, (s4714.2))) h
                · obtain ⟨p4741, hp4742, h⟩ := bind_some h
                  refine AConf.go sys 0 196 [.kk 1 hb4740, .call (fw_Tape_Bool_ok hp4742), .k hb4740] ?_
                  exact AConf.joinN (i := (p4741.1, p4741.2)) h
              · unfold Fw_Tape_Change.j169 at h
                rcases ite_or h with ⟨hb4722, h⟩ | ⟨hb4722, h⟩
                · obtain ⟨p4723, hp4724, h⟩ := bind_some h
                  obtain ⟨p4725, hp4726, h⟩ := bind_some h
                  obtain ⟨l4727, hv4728, h⟩ := bind_some h
                  refine AConf.go sys 0 194 [.k hb4722, .call (fw_Tape_Typed_ok hp4724), .call (fw_Lit_ok hp4726), .br true GExpr.cells_eq ([p4725]), .a true GExpr.cells_len hv4728] ?_
                  rcases ite_or h with ⟨hb4729, h⟩ | ⟨hb4729, h⟩
                  · obtain ⟨p4730, hp4731, h⟩ := bind_some h
                    obtain ⟨p4732, hp4733, h⟩ := bind_some h
                    obtain ⟨x4734, hv4735, h⟩ := bind_some h
                    refine AConf.go sys 0 196 [.k hb4729, .l GExpr.cells l4727, .call (fw_Tape_Small_ok hp4731), .call (fw_Num_ok hp4733), .xr GExpr.cells_eq hv4735, .or GExpr.cells_eq GExpr.cells_len hv4735 p4732, .kp 9 [0, 2, 4, 6, 7, 8, 9, 10, 11, 52, 53, 54] [0, 100, 101, 102, 103, 104, 183, 195], .ren 9 195 192] ?_
                    exact AConf.rngC h
                  · refine AConf.go sys 0 196 [.k hb4729, .kp 7663 [0, 2, 4, 6, 7, 8, 9, 10, 11, 52, 53, 54] [0, 100, 101, 102, 103, 104, 183, 195], .ren 7663 195 192] ?_
                    exact AConf.rngC h
                · obtain ⟨p4736, hp4737, h⟩ := bind_some h
                  obtain ⟨l4738, hv4739, h⟩ := bind_some h
                  refine AConf.go sys 0 194 [.k hb4722, .call (fw_Tape_Expr_ok hp4737), .br true GExpr.cells_eq ([p4736.1]), .a true GExpr.cells_len hv4739, .kp 10 [0, 2, 4, 6, 7, 8, 9, 10, 11, 52, 53, 54] [0, 100, 101, 102, 103, 104, 183, 195], .ren 10 195 192] ?_
                  exact AConf.rngC h
          · refine AConf.go sys 0 184 [.k hb4385] ?_
            exact AConf.stpB h
    · refine AConf.go sys 0 153 [.k hb2550] ?_
      rcases ite_or h with ⟨hb4747, h⟩ | ⟨hb4747, h⟩
      · obtain ⟨p4748, hp4749, h⟩ := bind_some h
        refine AConf.go sys 0 153 [.k hb4747, .l GColumn.cells p3.Columns, .call (fw_Tape_Next_ok hp4749), .ownC 5350 true 104 4 163 156 11] ?_
        refine AConf.rounds (bodyOf Tryz.f82) [1, 1, 4, 1, 5, 1, 3, 1, 2, 1, 1, 1, 1] (fun (s4969 : Int × GTape × (List GSet)) => ([(0, some (.ptr 0 0)), (2, some (pI a2)), (6, some (.ptr 101 0)), (7, some (.ptr 102 0)), (8, some (.ptr 103 0)), (9, some (.ptr 104 0)), (14, some (pI p4748.1)), (15, some (pI s4969.1))], [(0, some (.var (GTape.pvs s4969.2.1))), (101, some (.var [(pI 0), (pS []), pN, pN, pN, pN, (pS [])])), (102, some (.var (GSchema.pvs p3))), (103, some (.var (GPlace.pvs p5))), (163, some (.arr true 156 11 (s4969.2.2.map GSet.cells))), (104, some (.var [(pI (w64 (1 + p7.1))), (pS p3.Name), pN, pN, (.osl 163), pN, (pS [])]))])) h (fun _ h => h.symm) (fun s5078 h => ?_) (fun s4969 o4968 h hrt => ?_)
        · refine AConf.go sys 0 168 [.kp 0 [0, 2, 6, 8, 9] [0, 101, 103, 104, 163], .ren 0 163 115] ?_
          exact AConf.joinN (i := ((s5078.2.1), s5078.2.2)) h
        · unfold Fw_Tape_Change.b53 at h
          refine AConf.go sys 10908 164 [] ?_
          refine AConf.join (ι := Bool × GTape) (bodyOf Tryz.f82) [0, 8, 1, 1, 4, 1, 5, 1, 3, 1, 2, 1, 1, 1, 1] (fun q4981 => Fw_Tape_Change.j187 k a2 p3 p5 p4748 s4969 q4981 = some o4968) (fun (q4981 : Bool × GTape) => ([(0, some (.ptr 0 0)), (2, some (pI a2)), (6, some (.ptr 101 0)), (7, some (.ptr 102 0)), (8, some (.ptr 103 0)), (9, some (.ptr 104 0)), (14, some (pI p4748.1)), (15, some (pI s4969.1)), (118, some (pB q4981.1))], [(0, some (.var (GTape.pvs q4981.2))), (101, some (.var [(pI 0), (pS []), pN, pN, pN, pN, (pS [])])), (102, some (.var (GSchema.pvs p3))), (103, some (.var (GPlace.pvs p5))), (163, some (.arr true 156 11 (s4969.2.2.map GSet.cells))), (104, some (.var [(pI (w64 (1 + p7.1))), (pS p3.Name), pN, pN, (.osl 163), pN, (pS [])]))])) ?_ fun q4981 h => ?_
          · obtain ⟨p5075, hp5076, h⟩ := bind_some h
            refine AConf.go sys 0 168 [.call (fw_Tape_Next_ok hp5076)] ?_
            rcases ite_or h with ⟨hb5077, h⟩ | ⟨hb5077, h⟩
            · refine AConf.go sys 0 168 [.kk 3 hb5077, .l GColumn.cells p3.Columns, .kk 1 hb5077] ?_
              exact AConf.joinN (i := (decide (s4969.1 < (p3.Columns.length : Int)), p5075.2)) h
            · refine AConf.go sys 0 168 [.kk 5 hb5077] ?_
              exact AConf.joinN (i := (false, p5075.2)) h
          · unfold Fw_Tape_Change.j187 at h
            rcases ite_or h with ⟨hb4982, h⟩ | ⟨hb4982, h⟩
            · obtain ⟨v5029, hv5031, h⟩ := bind_some h
              obtain ⟨x5032, hv5033, h⟩ := bind_some h
              obtain ⟨p5034, hp5035, h⟩ := bind_some h
              refine AConf.go sys 4646 164 [.k hb4982, .l GColumn.cells p3.Columns, .d hv5031, .x GColumn.cells hv5033, .call (fw_Tape_Expr_ok hp5035)] ?_
              refine AConf.join (ι := GTape × Int × Int × Bool × Int × Int × (List UInt8) × (List UInt8) × (List UInt8) × (List GExpr) × (List GQuery)) (bodyOf Tryz.f82) [1, 1, 3, 0, 1, 8, 1, 1, 4, 1, 5, 1, 3, 1, 2, 1, 1, 1, 1] (fun q5054 => Fw_Tape_Change.j192 s4969 x5032 q5054 = some o4968) (fun (q5054 : GTape × Int × Int × Bool × Int × Int × (List UInt8) × (List UInt8) × (List UInt8) × (List GExpr) × (List GQuery)) => ([(0, some (.ptr 0 0)), (2, some (pI a2)), (6, some (.ptr 101 0)), (7, some (.ptr 102 0)), (8, some (.ptr 103 0)), (9, some (.ptr 104 0)), (14, some (pI p4748.1)), (15, some (pI s4969.1)), (17, some (.ptr 165 0))], [(0, some (.var (GTape.pvs q5054.1))), (101, some (.var [(pI 0), (pS []), pN, pN, pN, pN, (pS [])])), (102, some (.var (GSchema.pvs p3))), (103, some (.var (GPlace.pvs p5))), (163, some (.arr true 156 11 (s4969.2.2.map GSet.cells))), (104, some (.var [(pI (w64 (1 + p7.1))), (pS p3.Name), pN, pN, (.osl 163), pN, (pS [])])), (165, some (.var [(pS x5032.Name), (pI q5054.2.1), (pI q5054.2.2.1), (pB q5054.2.2.2.1), (pI q5054.2.2.2.2.1), (pI q5054.2.2.2.2.2.1), (pS q5054.2.2.2.2.2.2.1), (pS q5054.2.2.2.2.2.2.2.1), (pS q5054.2.2.2.2.2.2.2.2.1), (pL GExpr.cells q5054.2.2.2.2.2.2.2.2.2.1), (pL GQuery.cells q5054.2.2.2.2.2.2.2.2.2.2)]))])) ?_ fun q5054 h => ?_
              · refine AConf.go sys 3605 168 [] ?_
                refine AConf.join (ι := Bool × GTape) (bodyOf Tryz.f82) [2, 1, 1, 3, 0, 1, 8, 1, 1, 4, 1, 5, 1, 3, 1, 2, 1, 1, 1, 1] (fun q5060 => Fw_Tape_Change.j193 k s4969 x5032 p5034 q5060 = some o4968) (fun (q5060 : Bool × GTape) => ([(0, some (.ptr 0 0)), (2, some (pI a2)), (6, some (.ptr 101 0)), (7, some (.ptr 102 0)), (8, some (.ptr 103 0)), (9, some (.ptr 104 0)), (14, some (pI p4748.1)), (15, some (pI s4969.1)), (16, some (.ptr 164 0)), (17, some (.ptr 165 0)), (147, some (pB q5060.1))], [(0, some (.var (GTape.pvs q5060.2))), (101, some (.var [(pI 0), (pS []), pN, pN, pN, pN, (pS [])])), (102, some (.var (GSchema.pvs p3))), (103, some (.var (GPlace.pvs p5))), (163, some (.arr true 156 11 (s4969.2.2.map GSet.cells))), (104, some (.var [(pI (w64 (1 + p7.1))), (pS p3.Name), pN, pN, (.osl 163), pN, (pS [])])), (164, some (.var (GColumn.pvs x5032))), (165, some (.var [(pS x5032.Name), (pI p5034.1.Kind), (pI p5034.1.Op), (pB p5034.1.Not), (pI p5034.1.Value.Kind), (pI p5034.1.Value.Int), (pS p5034.1.Value.Text), (pS p5034.1.Table), (pS p5034.1.Name), (pL GExpr.cells p5034.1.Args), (pL GQuery.cells p5034.1.Sub)]))])) ?_ fun q5060 h => ?_
                · rcases ite_or h with ⟨hb5072, h⟩ | ⟨hb5072, h⟩
                  · obtain ⟨p5073, hp5074, h⟩ := bind_some h
                    refine AConf.go sys 0 168 [.kk 1 hb5072, .call (fw_Tape_Bool_ok hp5074), .k hb5072] ?_
                    exact AConf.joinN (i := (p5073.1, p5073.2)) h
                  · refine AConf.go sys 0 168 [.kk 2 hb5072] ?_
                    exact AConf.joinN (i := (false, p5034.2)) h
                · unfold Fw_Tape_Change.j193 at h
                  rcases ite_or h with ⟨hb5061, h⟩ | ⟨hb5061, h⟩
                  · obtain ⟨p5062, hp5063, h⟩ := bind_some h
                    obtain ⟨p5064, hp5065, h⟩ := bind_some h
                    obtain ⟨p5066, hp5067, h⟩ := bind_some h
                    obtain ⟨p5068, hp5069, h⟩ := bind_some h
                    obtain ⟨p5070, hp5071, h⟩ := bind_some h
                    refine AConf.go sys 0 168 [.k hb5061, .call (fw_Tape_Next_ok hp5063), .call (fw_Col_ok hp5065), .call (fw_Tape_Next_ok hp5067), .call (fw_Num_ok hp5069), .call (fw_Bin_ok hp5071)] ?_
                    exact AConf.joinN (i := (p5066.2, p5070.Kind, p5070.Op, p5070.Not, p5070.Value.Kind, p5070.Value.Int, p5070.Value.Text, p5070.Table, p5070.Name, p5070.Args, p5070.Sub)) h
                  · refine AConf.go sys 0 168 [.k hb5061] ?_
                    exact AConf.joinN (i := ((q5060.2), p5034.1.Kind, p5034.1.Op, p5034.1.Not, p5034.1.Value.Kind, p5034.1.Value.Int, p5034.1.Value.Text, p5034.1.Table, p5034.1.Name, p5034.1.Args, p5034.1.Sub)) h
              · unfold Fw_Tape_Change.j192 at h
                obtain ⟨l5055, hv5056, h⟩ := bind_some h
                refine AConf.go sys 0 166 [.b true GSet.cells ([(GSet.mk x5032.Name (GExpr.mk q5054.2.1 q5054.2.2.1 q5054.2.2.2.1 (GValue.mk q5054.2.2.2.2.1 q5054.2.2.2.2.2.1 q5054.2.2.2.2.2.2.1) q5054.2.2.2.2.2.2.2.1 q5054.2.2.2.2.2.2.2.2.1 q5054.2.2.2.2.2.2.2.2.2.1 q5054.2.2.2.2.2.2.2.2.2.2))]), .a true GSet.cells_len hv5056, .kp 3 [0, 2, 6, 7, 8, 9, 14, 15] [0, 101, 102, 103, 104, 167], .ren 3 167 163] ?_
                exact AConf.stpC h
            · refine AConf.go sys 0 164 [.k hb4982] ?_
              exact AConf.stpB h
      · refine AConf.go sys 0 153 [.k hb4747, .kp 1575 [0, 2, 6, 8, 9] [0, 101, 103, 104], .ownC 1575 true 104 4 115 156 11] ?_
        exact AConf.joinN (i := (p7.2, ([] : List GSet))) h
  · unfold Fw_Tape_Change.j96 at h
    refine AConf.go sys 3883 150 [] ?_
    refine AConf.join (ι := GTape × (List GExpr)) (bodyOf Tryz.f82) [1, 1, 1, 1, 1] (fun q2544 => Fw_Tape_Change.j97 p3 p7 q2538 q2544 = some r) (fun (q2544 : GTape × (List GExpr)) => ([(6, some (.ptr 101 0)), (9, some (.ptr 104 0))], [(0, some (.var (GTape.pvs q2544.1))), (101, some (.var [(pI 0), (pS []), pN, pN, pN, pN, (pS [])])), (115, some (.arr true 156 11 (q2538.2.map GSet.cells))), (151, some (.arr true 106 10 (q2544.2.map GExpr.cells))), (104, some (.var [(pI (w64 (1 + p7.1))), (pS p3.Name), pN, pN, (.osl 115), (.osl 151), (pS [])]))])) ?_ fun q2544 h => ?_
    · obtain ⟨p2545, hp2546, h⟩ := bind_some h
      refine AConf.go sys 0 152 [.call (fw_Tape_Bool_ok hp2546)] ?_
      rcases ite_or h with ⟨hb2547, h⟩ | ⟨hb2547, h⟩
      · refine AConf.go sys 0 152 [.k (notT hb2547), .kp 2732 [6, 9] [0, 101, 104, 115], .ownC 2732 true 104 5 151 106 10] ?_
        exact AConf.joinN (i := (p2545.2, ([] : List GExpr))) h
      · obtain ⟨p2548, hp2549, h⟩ := bind_some h
        refine AConf.go sys 0 152 [.k (notF hb2547), .call (fw_Tape_Expr_ok hp2549), .br true GExpr.cells_eq ([p2548.1]), .kp 7 [6, 9] [0, 101, 104, 115, 152], .ren 7 152 151] ?_
        exact AConf.joinN (i := (p2548.2, [p2548.1])) h
    · unfold Fw_Tape_Change.j97 at h
      obtain rfl := Option.some.inj h
      refine AConf.go sys 0 152 [.frz 8788 115, .frz 8788 151] ?_
      exact AConf.fin

-- triggerstore/triggerstoreworld.Between
def Fw_Between (k : Nat) (a0 : List UInt8) (a1 : Int) (a2 : Int) : Option GExpr :=
  ((Fw_Col k [] a0).bind fun p1 => ((Fw_Num k a1).bind fun p3 => ((Fw_Num k a2).bind fun p5 => (some (GExpr.mk 7 0 false (GValue.mk 0 0 []) [] [] ([p1, p3, p5]) [])))))
theorem fw_Between_ok {k : Nat} {a0 : List UInt8} {a1 : Int} {a2 : Int} {r : GExpr} (h : Fw_Between k a0 a1 a2 = some r) :
    ACalls Tryz.prog gl 80 [(pS a0), (pI a1), (pI a2)] [] (.agg (GExpr.pvs r)) [] [] := by
  refine ACalls.enter sys Tryz.func80 fun w F ν => ?_
  unfold Fw_Between at h
  obtain ⟨p1, hp2, h⟩ := bind_some h
  obtain ⟨p3, hp4, h⟩ := bind_some h
  obtain ⟨p5, hp6, h⟩ := bind_some h
  obtain rfl := Option.some.inj h
  refine AConf.go sys 0 100 [.call (fw_Col_ok hp2), .call (fw_Num_ok hp4), .call (fw_Num_ok hp6), .br false GExpr.cells_eq ([p1, p3, p5]), .frz 7143 101] ?_
  exact AConf.fin
end Go.Proofs.YtiojahpkaogigaaGreatDoor
