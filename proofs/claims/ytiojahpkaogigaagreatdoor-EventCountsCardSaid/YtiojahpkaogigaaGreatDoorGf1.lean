/- Functions, and that the calls come to them. Conditions: none. -/
import Derived.Test.YtiojahpkaogigaaGreatDoorGf0
set_option maxRecDepth 100000
set_option linter.unusedVariables false
set_option linter.unusedSimpArgs false
namespace Go.Proofs.YtiojahpkaogigaaGreatDoor
open Go Go.Ab
-- (*triggerstore/triggerstoreworld.Tape).action
def Fw_Tape_action.j7 (k : Nat) (a3 : GPlace) (q144 : GTape) : Option (GAction × GTape) :=
  ((Fw_Tape_Change k (q144) a3 1).bind fun p145 => (some (p145.1, p145.2)))
def Fw_Tape_action.j10 (q52 : GTape × Int × Int × Bool × Int × Int × (List UInt8) × (List UInt8) × (List UInt8) × (List GExpr) × (List GQuery)) (x198 : List UInt8) (q217 : GTape × Int × Int × Bool × Int × Int × (List UInt8) × (List UInt8) × (List UInt8) × (List GExpr) × (List GQuery)) : Option (GAction × GTape) :=
  (some ((GAction.mk 2 x198 [] [] ([(GSet.mk ([110]) (GExpr.mk ((GExpr.mk q52.2.1 q52.2.2.1 q52.2.2.2.1 (GValue.mk q52.2.2.2.2.1 q52.2.2.2.2.2.1 q52.2.2.2.2.2.2.1) q52.2.2.2.2.2.2.2.1 q52.2.2.2.2.2.2.2.2.1 q52.2.2.2.2.2.2.2.2.2.1 q52.2.2.2.2.2.2.2.2.2.2).Kind) ((GExpr.mk q52.2.1 q52.2.2.1 q52.2.2.2.1 (GValue.mk q52.2.2.2.2.1 q52.2.2.2.2.2.1 q52.2.2.2.2.2.2.1) q52.2.2.2.2.2.2.2.1 q52.2.2.2.2.2.2.2.2.1 q52.2.2.2.2.2.2.2.2.2.1 q52.2.2.2.2.2.2.2.2.2.2).Op) ((GExpr.mk q52.2.1 q52.2.2.1 q52.2.2.2.1 (GValue.mk q52.2.2.2.2.1 q52.2.2.2.2.2.1 q52.2.2.2.2.2.2.1) q52.2.2.2.2.2.2.2.1 q52.2.2.2.2.2.2.2.2.1 q52.2.2.2.2.2.2.2.2.2.1 q52.2.2.2.2.2.2.2.2.2.2).Not) (GValue.mk ((GExpr.mk q52.2.1 q52.2.2.1 q52.2.2.2.1 (GValue.mk q52.2.2.2.2.1 q52.2.2.2.2.2.1 q52.2.2.2.2.2.2.1) q52.2.2.2.2.2.2.2.1 q52.2.2.2.2.2.2.2.2.1 q52.2.2.2.2.2.2.2.2.2.1 q52.2.2.2.2.2.2.2.2.2.2).Value.Kind) ((GExpr.mk q52.2.1 q52.2.2.1 q52.2.2.2.1 (GValue.mk q52.2.2.2.2.1 q52.2.2.2.2.2.1 q52.2.2.2.2.2.2.1) q52.2.2.2.2.2.2.2.1 q52.2.2.2.2.2.2.2.2.1 q52.2.2.2.2.2.2.2.2.2.1 q52.2.2.2.2.2.2.2.2.2.2).Value.Int) ((GExpr.mk q52.2.1 q52.2.2.1 q52.2.2.2.1 (GValue.mk q52.2.2.2.2.1 q52.2.2.2.2.2.1 q52.2.2.2.2.2.2.1) q52.2.2.2.2.2.2.2.1 q52.2.2.2.2.2.2.2.2.1 q52.2.2.2.2.2.2.2.2.2.1 q52.2.2.2.2.2.2.2.2.2.2).Value.Text)) ((GExpr.mk q52.2.1 q52.2.2.1 q52.2.2.2.1 (GValue.mk q52.2.2.2.2.1 q52.2.2.2.2.2.1 q52.2.2.2.2.2.2.1) q52.2.2.2.2.2.2.2.1 q52.2.2.2.2.2.2.2.2.1 q52.2.2.2.2.2.2.2.2.2.1 q52.2.2.2.2.2.2.2.2.2.2).Table) ((GExpr.mk q52.2.1 q52.2.2.1 q52.2.2.2.1 (GValue.mk q52.2.2.2.2.1 q52.2.2.2.2.2.1 q52.2.2.2.2.2.2.1) q52.2.2.2.2.2.2.2.1 q52.2.2.2.2.2.2.2.2.1 q52.2.2.2.2.2.2.2.2.2.1 q52.2.2.2.2.2.2.2.2.2.2).Name) ((GExpr.mk q52.2.1 q52.2.2.1 q52.2.2.2.1 (GValue.mk q52.2.2.2.2.1 q52.2.2.2.2.2.1 q52.2.2.2.2.2.2.1) q52.2.2.2.2.2.2.2.1 q52.2.2.2.2.2.2.2.2.1 q52.2.2.2.2.2.2.2.2.2.1 q52.2.2.2.2.2.2.2.2.2.2).Args) ((GExpr.mk q52.2.1 q52.2.2.1 q52.2.2.2.1 (GValue.mk q52.2.2.2.2.1 q52.2.2.2.2.2.1 q52.2.2.2.2.2.2.1) q52.2.2.2.2.2.2.2.1 q52.2.2.2.2.2.2.2.2.1 q52.2.2.2.2.2.2.2.2.2.1 q52.2.2.2.2.2.2.2.2.2.2).Sub)))]) ([(GExpr.mk q217.2.1 q217.2.2.1 q217.2.2.2.1 (GValue.mk q217.2.2.2.2.1 q217.2.2.2.2.2.1 q217.2.2.2.2.2.2.1) q217.2.2.2.2.2.2.2.1 q217.2.2.2.2.2.2.2.2.1 q217.2.2.2.2.2.2.2.2.2.1 q217.2.2.2.2.2.2.2.2.2.2)]) []), (q217.1)))
def Fw_Tape_action.j9 (k : Nat) (a3 : GPlace) (q52 : GTape × Int × Int × Bool × Int × Int × (List UInt8) × (List UInt8) × (List UInt8) × (List GExpr) × (List GQuery)) (p147 : Int × GTape) (q195 : List UInt8) : Option (GAction × GTape) :=
  ((Fw_Tape_Next k p147.2 2).bind fun p196 => ((idx ([[116], [117]]) p196.1).bind fun x198 => ((Fw_Col k [] ([105, 100])).bind fun p200 => ((Fw_Col k q195 ([105, 100])).bind fun p202 => ((Fw_Bin k 3 p200 p202).bind fun p204 => ((Fw_Tape_Bool k p196.2 3).bind fun p218 => (if p218.1 = true then ((Fw_Schema k x198).bind fun p221 => ((Fw_Inside k a3 p221).bind fun p223 => ((Fw_Tape_Expr k p218.2 p223 2 2).bind fun p225 => ((Fw_Bin k 2 p204 p225.1).bind fun p227 => (Fw_Tape_action.j10 q52 x198 (p225.2, p227.Kind, p227.Op, p227.Not, p227.Value.Kind, p227.Value.Int, p227.Value.Text, p227.Table, p227.Name, p227.Args, p227.Sub)))))) else (Fw_Tape_action.j10 q52 x198 (p218.2, p204.Kind, p204.Op, p204.Not, p204.Value.Kind, p204.Value.Int, p204.Value.Text, p204.Table, p204.Name, p204.Args, p204.Sub)))))))))
def Fw_Tape_action.j8 (k : Nat) (a1 : GTrigger) (a3 : GPlace) (q52 : GTape × Int × Int × Bool × Int × Int × (List UInt8) × (List UInt8) × (List UInt8) × (List GExpr) × (List GQuery)) (p147 : Int × GTape) (q192 : Bool) : Option (GAction × GTape) :=
  (if q192 = true then (if decide (a1.Event = 3) = true then (Fw_Tape_action.j9 k a3 q52 p147 ([79, 76, 68])) else (Fw_Tape_action.j9 k a3 q52 p147 ([78, 69, 87]))) else (Fw_Tape_action.j7 k a3 p147.2))
def Fw_Tape_action.j3 (k : Nat) (a1 : GTrigger) (a3 : GPlace) (q52 : GTape × Int × Int × Bool × Int × Int × (List UInt8) × (List UInt8) × (List UInt8) × (List GExpr) × (List GQuery)) : Option (GAction × GTape) :=
  ((Fw_Tape_Next k (q52.1) 7).bind fun p147 => (if decide (p147.1 = 0) = true then ((Fw_Lit k (GValue.mk 3 0 a1.Name)).bind fun p150 => (some ((GAction.mk 1 ([108, 111, 103]) ([[(GExpr.mk q52.2.1 q52.2.2.1 q52.2.2.2.1 (GValue.mk q52.2.2.2.2.1 q52.2.2.2.2.2.1 q52.2.2.2.2.2.2.1) q52.2.2.2.2.2.2.2.1 q52.2.2.2.2.2.2.2.2.1 q52.2.2.2.2.2.2.2.2.2.1 q52.2.2.2.2.2.2.2.2.2.2), p150]]) [] [] [] []), p147.2))) else (if decide (p147.1 = 1) = true then ((Fw_Tape_Next k p147.2 2).bind fun p153 => ((idx ([[110], [109]]) p153.1).bind fun x155 => ((Fw_Tape_Next k p153.2 2).bind fun p157 => ((Fw_Tape_Next k p157.2 2).bind fun p159 => ((idx ([[110], [109]]) p159.1).bind fun x161 => ((Fw_Col k [] x161).bind fun p163 => ((Fw_Tape_Next k p159.2 3).bind fun p165 => ((Fw_Num k (w64 (1 + p165.1))).bind fun p167 => ((Fw_Bin k (w64 (9 + p157.1)) p163 p167).bind fun p169 => (some ((GAction.mk 2 ([117]) [] [] ([(GSet.mk x155 p169)]) [] []), p165.2))))))))))) else (if decide (p147.1 = 2) = true then ((Fw_Tape_Next k p147.2 2).bind fun p172 => ((idx ([[110], [109]]) p172.1).bind fun x174 => ((Fw_Tape_Next k p172.2 2).bind fun p176 => ((Fw_Col k [] x174).bind fun p178 => ((Fw_Tape_Next k p176.2 3).bind fun p180 => ((Fw_Num k (w64 (1 + p180.1))).bind fun p182 => ((Fw_Bin k (w64 (9 + p176.1)) p178 p182).bind fun p184 => ((Fw_Tape_Small k p180.2).bind fun p186 => ((Fw_Between k x174 p186.1 9).bind fun p188 => (some ((GAction.mk 2 ([117]) [] [] ([(GSet.mk x174 p184)]) ([p188]) []), p186.2))))))))))) else (if decide (p147.1 = 3) = true then (if a1.EachRow = true then (Fw_Tape_action.j8 k a1 a3 q52 p147 (!decide (a1.Table = ([108, 111, 103])))) else (Fw_Tape_action.j8 k a1 a3 q52 p147 false)) else (if decide (p147.1 = 4) = true then ((Fw_Tape_Table k p147.2).bind fun p232 => ((Fw_Col k [] ([110])).bind fun p234 => ((Fw_Bin k 5 p234 (GExpr.mk q52.2.1 q52.2.2.1 q52.2.2.2.1 (GValue.mk q52.2.2.2.2.1 q52.2.2.2.2.2.1 q52.2.2.2.2.2.2.1) q52.2.2.2.2.2.2.2.1 q52.2.2.2.2.2.2.2.2.1 q52.2.2.2.2.2.2.2.2.2.1 q52.2.2.2.2.2.2.2.2.2.2)).bind fun p236 => (some ((GAction.mk 3 p232.1 [] [] [] ([p236]) []), p232.2))))) else (Fw_Tape_action.j7 k a3 p147.2)))))))
def Fw_Tape_action.j11 (k : Nat) (a1 : GTrigger) (a3 : GPlace) (p40 : GExpr) (p238 : GExpr × Bool × GTape) (q243 : Bool × GTape) : Option (GAction × GTape) :=
  (if q243.1 = true then (Fw_Tape_action.j3 k a1 a3 ((q243.2), p238.1.Kind, p238.1.Op, p238.1.Not, p238.1.Value.Kind, p238.1.Value.Int, p238.1.Value.Text, p238.1.Table, p238.1.Name, p238.1.Args, p238.1.Sub)) else (Fw_Tape_action.j3 k a1 a3 ((q243.2), p40.Kind, p40.Op, p40.Not, p40.Value.Kind, p40.Value.Int, p40.Value.Text, p40.Table, p40.Name, p40.Args, p40.Sub)))
def Fw_Tape_action.j1 (k : Nat) (a1 : GTrigger) (a2 : GSchema) (a3 : GPlace) (q20 : Bool × GTape) : Option (GAction × GTape) :=
  (if q20.1 = true then ((Fw_Tape_Word k (q20.2)).bind fun p22 => (some ((GAction.mk 4 [] [] [] [] [] p22.1), p22.2))) else (if a1.Before = true then ((Fw_Tape_Next k (q20.2) (a2.Columns.length : Int)).bind fun p32 => ((idx a2.Columns p32.1).bind fun x34 => ((Fw_Tape_Expr k p32.2 a3 x34.Typ 1).bind fun p36 => (some ((GAction.mk 5 [] [] [] ([(GSet.mk x34.Name p36.1)]) [] []), p36.2))))) else ((Fw_Tape_Next k (q20.2) 5).bind fun p38 => ((Fw_Lit k (GValue.mk 1 p38.1 [])).bind fun p40 => ((Fw_Tape_column k p38.2 (GPlace.mk a3.Frames []) 1).bind fun p238 => (if p238.2.1 = true then ((Fw_Tape_Bool k p238.2.2 2).bind fun p246 => (Fw_Tape_action.j11 k a1 a3 p40 p238 (p246.1, p246.2))) else (Fw_Tape_action.j11 k a1 a3 p40 p238 (false, p238.2.2))))))))
def Fw_Tape_action (k : Nat) (a0 : GTape) (a1 : GTrigger) (a2 : GSchema) (a3 : GPlace) : Option (GAction × GTape) :=
  ((Fw_Tape_Bool k a0 9).bind fun p248 => (if p248.1 = true then (Fw_Tape_action.j1 k a1 a2 a3 (true, p248.2)) else (if a1.Before = true then (if a1.EachRow = true then (Fw_Tape_action.j1 k a1 a2 a3 (decide (a1.Event = 3), p248.2)) else (Fw_Tape_action.j1 k a1 a2 a3 (true, p248.2))) else (Fw_Tape_action.j1 k a1 a2 a3 (false, p248.2)))))
theorem fw_Tape_action_ok {k : Nat} {a0 : GTape} {a1 : GTrigger} {a2 : GSchema} {a3 : GPlace} {r : GAction × GTape} (h : Fw_Tape_action k a0 a1 a2 a3 = some r) :
    ACalls Tryz.prog gl 37 [(.ptr 0 0), (.agg (GTrigger.pvs a1)), (.agg (GSchema.pvs a2)), (.agg (GPlace.pvs a3))] [(0, some (.var (GTape.pvs a0)))] (.agg (GAction.pvs r.1)) [(0, some (.var (GTape.pvs r.2)))] [] := by
  refine ACalls.enter sys Tryz.func37 fun w F ν => ?_
  unfold Fw_Tape_action at h
  refine AConf.go sys 7142 100 [] ?_
  refine AConf.join (ι := Bool × GTape) (bodyOf Tryz.f37) [0, 1] (fun q20 => Fw_Tape_action.j1 k a1 a2 a3 q20 = some r) (fun (q20 : Bool × GTape) => ([(0, some (.ptr 0 0)), (5, some (.ptr 100 0)), (6, some (.ptr 101 0)), (7, some (.ptr 102 0)), (8, some (.ptr 103 0)), (32, some (pB q20.1))], [(0, some (.var (GTape.pvs q20.2))), (100, some (.var (GTrigger.pvs a1))), (101, some (.var (GSchema.pvs a2))), (102, some (.var (GPlace.pvs a3))), (103, some (.var [(pI 0), (pS []), pN, pN, pN, pN, (pS [])]))])) ?_ fun q20 h => ?_
  · obtain ⟨p248, hp249, h⟩ := bind_some h
    refine AConf.go sys 0 115 [.call (fw_Tape_Bool_ok hp249)] ?_
    rcases ite_or h with ⟨hb250, h⟩ | ⟨hb250, h⟩
    · refine AConf.go sys 0 115 [.kk 4 hb250] ?_
      exact AConf.joinN (i := (true, p248.2)) h
    · refine AConf.go sys 0 115 [.kk 2 hb250] ?_
      rcases ite_or h with ⟨hb251, h⟩ | ⟨hb251, h⟩
      · refine AConf.go sys 0 115 [.kk 3 hb251] ?_
        rcases ite_or h with ⟨hb252, h⟩ | ⟨hb252, h⟩
        · refine AConf.go sys 0 115 [.kk 2 (notT hb252), .k hb251, .k (notT hb252), .k hb250, .k hb251, .k hb250] ?_
          exact AConf.joinN (i := (decide (a1.Event = 3), p248.2)) h
        · refine AConf.go sys 0 115 [.kk 2 (notF hb252), .k hb251, .k (notF hb252), .k hb250, .k hb251, .k hb250] ?_
          exact AConf.joinN (i := (true, p248.2)) h
      · refine AConf.go sys 0 115 [.kk 4 hb251, .k hb250, .k hb251, .k hb250] ?_
        exact AConf.joinN (i := (false, p248.2)) h
  · unfold Fw_Tape_action.j1 at h
    rcases ite_or h with ⟨hb21, h⟩ | ⟨hb21, h⟩
    · obtain ⟨p22, hp23, h⟩ := bind_some h
      obtain rfl := Option.some.inj h
      refine AConf.go sys 0 104 [.k hb21, .call (fw_Tape_Word_ok hp23)] ?_
      exact AConf.fin
    · refine AConf.go sys 0 104 [.k hb21] ?_
      rcases ite_or h with ⟨hb31, h⟩ | ⟨hb31, h⟩
      · obtain ⟨p32, hp33, h⟩ := bind_some h
        obtain ⟨x34, hv35, h⟩ := bind_some h
        obtain ⟨p36, hp37, h⟩ := bind_some h
        obtain rfl := Option.some.inj h
        refine AConf.go sys 0 104 [.k hb31, .l GColumn.cells a2.Columns, .call (fw_Tape_Next_ok hp33), .x GColumn.cells hv35, .call (fw_Tape_Expr_ok hp37), .b false GSet.cells ([(GSet.mk x34.Name p36.1)]), .frz 6534 105] ?_
        exact AConf.fin
      · obtain ⟨p38, hp39, h⟩ := bind_some h
        obtain ⟨p40, hp41, h⟩ := bind_some h
        refine AConf.go sys 8960 104 [.k hb31, .call (fw_Tape_Next_ok hp39), .call (fw_Lit_ok hp41)] ?_
        refine AConf.join (ι := GTape × Int × Int × Bool × Int × Int × (List UInt8) × (List UInt8) × (List UInt8) × (List GExpr) × (List GQuery)) (bodyOf Tryz.f37) [1, 1, 1, 1] (fun q52 => Fw_Tape_action.j3 k a1 a3 q52 = some r) (fun (q52 : GTape × Int × Int × Bool × Int × Int × (List UInt8) × (List UInt8) × (List UInt8) × (List GExpr) × (List GQuery)) => ([(0, some (.ptr 0 0)), (5, some (.ptr 100 0)), (7, some (.ptr 102 0)), (8, some (.ptr 103 0)), (10, some (.ptr 104 0))], [(0, some (.var (GTape.pvs q52.1))), (100, some (.var (GTrigger.pvs a1))), (102, some (.var (GPlace.pvs a3))), (103, some (.var [(pI 0), (pS []), pN, pN, pN, pN, (pS [])])), (104, some (.var [(pI q52.2.1), (pI q52.2.2.1), (pB q52.2.2.2.1), (pI q52.2.2.2.2.1), (pI q52.2.2.2.2.2.1), (pS q52.2.2.2.2.2.2.1), (pS q52.2.2.2.2.2.2.2.1), (pS q52.2.2.2.2.2.2.2.2.1), (pL GExpr.cells q52.2.2.2.2.2.2.2.2.2.1), (pL GQuery.cells q52.2.2.2.2.2.2.2.2.2.2)]))])) ?_ fun q52 h => ?_
        · obtain ⟨p238, hp239, h⟩ := bind_some h
          refine AConf.go sys 8243 114 [.call (fw_Tape_column_ok hp239)] ?_
          refine AConf.join (ι := Bool × GTape) (bodyOf Tryz.f37) [1, 2, 1, 1, 1, 1] (fun q243 => Fw_Tape_action.j11 k a1 a3 p40 p238 q243 = some r) (fun (q243 : Bool × GTape) => ([(0, some (.ptr 0 0)), (5, some (.ptr 100 0)), (7, some (.ptr 102 0)), (8, some (.ptr 103 0)), (10, some (.ptr 104 0)), (11, some (.ptr 114 0)), (73, some (pB q243.1))], [(0, some (.var (GTape.pvs q243.2))), (100, some (.var (GTrigger.pvs a1))), (102, some (.var (GPlace.pvs a3))), (103, some (.var [(pI 0), (pS []), pN, pN, pN, pN, (pS [])])), (104, some (.var (GExpr.pvs p40))), (114, some (.var (GExpr.pvs p238.1)))])) ?_ fun q243 h => ?_
          · rcases ite_or h with ⟨hb245, h⟩ | ⟨hb245, h⟩
            · obtain ⟨p246, hp247, h⟩ := bind_some h
              refine AConf.go sys 0 115 [.kk 1 hb245, .call (fw_Tape_Bool_ok hp247), .k hb245] ?_
              exact AConf.joinN (i := (p246.1, p246.2)) h
            · refine AConf.go sys 0 115 [.kk 2 hb245] ?_
              exact AConf.joinN (i := (false, p238.2.2)) h
          · unfold Fw_Tape_action.j11 at h
            rcases ite_or h with ⟨hb244, h⟩ | ⟨hb244, h⟩
            · refine AConf.go sys 0 115 [.k hb244] ?_
              exact AConf.joinN (i := ((q243.2), p238.1.Kind, p238.1.Op, p238.1.Not, p238.1.Value.Kind, p238.1.Value.Int, p238.1.Value.Text, p238.1.Table, p238.1.Name, p238.1.Args, p238.1.Sub)) h
            · refine AConf.go sys 0 115 [.k hb244] ?_
              exact AConf.joinN (i := ((q243.2), p40.Kind, p40.Op, p40.Not, p40.Value.Kind, p40.Value.Int, p40.Value.Text, p40.Table, p40.Name, p40.Args, p40.Sub)) h
        · unfold Fw_Tape_action.j3 at h
          refine AConf.go sys 3883 106 [] ?_
          refine AConf.join (ι := GTape) (bodyOf Tryz.f37) [1, 1, 1, 1, 1] (fun q144 => Fw_Tape_action.j7 k a3 q144 = some r) (fun (q144 : GTape) => ([(0, some (.ptr 0 0)), (7, some (.ptr 102 0)), (8, some (.ptr 103 0))], [(0, some (.var (GTape.pvs q144))), (102, some (.var (GPlace.pvs a3))), (103, some (.var [(pI 0), (pS []), pN, pN, pN, pN, (pS [])]))])) ?_ fun q144 h => ?_
          · obtain ⟨p147, hp148, h⟩ := bind_some h
            refine AConf.go sys 0 110 [.call (fw_Tape_Next_ok hp148)] ?_
            rcases ite_or h with ⟨hb149, h⟩ | ⟨hb149, h⟩
            · obtain ⟨p150, hp151, h⟩ := bind_some h
              obtain rfl := Option.some.inj h
              refine AConf.go sys 0 110 [.k hb149, .call (fw_Lit_ok hp151), .br false GExpr.cells_eq ([(GExpr.mk q52.2.1 q52.2.2.1 q52.2.2.2.1 (GValue.mk q52.2.2.2.2.1 q52.2.2.2.2.2.1 q52.2.2.2.2.2.2.1) q52.2.2.2.2.2.2.2.1 q52.2.2.2.2.2.2.2.2.1 q52.2.2.2.2.2.2.2.2.2.1 q52.2.2.2.2.2.2.2.2.2.2), p150]), .b false (cL GExpr.cells) ([[(GExpr.mk q52.2.1 q52.2.2.1 q52.2.2.2.1 (GValue.mk q52.2.2.2.2.1 q52.2.2.2.2.2.1 q52.2.2.2.2.2.2.1) q52.2.2.2.2.2.2.2.1 q52.2.2.2.2.2.2.2.2.1 q52.2.2.2.2.2.2.2.2.2.1 q52.2.2.2.2.2.2.2.2.2.2), p150]]), .frz 6141 111] ?_
              refine AConf.joinR ?_
              exact AConf.fin
            · refine AConf.go sys 0 110 [.k hb149] ?_
              rcases ite_or h with ⟨hb152, h⟩ | ⟨hb152, h⟩
              · obtain ⟨p153, hp154, h⟩ := bind_some h
                obtain ⟨x155, hv156, h⟩ := bind_some h
                obtain ⟨p157, hp158, h⟩ := bind_some h
                obtain ⟨p159, hp160, h⟩ := bind_some h
                obtain ⟨x161, hv162, h⟩ := bind_some h
                obtain ⟨p163, hp164, h⟩ := bind_some h
                obtain ⟨p165, hp166, h⟩ := bind_some h
                obtain ⟨p167, hp168, h⟩ := bind_some h
                obtain ⟨p169, hp170, h⟩ := bind_some h
                obtain rfl := Option.some.inj h
                refine AConf.go sys 0 110 [.k hb152, .b false cS ([[110], [109]]), .call (fw_Tape_Next_ok hp154), .x cS hv156, .x cS hv156, .call (fw_Tape_Next_ok hp158), .b false cS ([[110], [109]]), .call (fw_Tape_Next_ok hp160), .x cS hv162, .x cS hv162, .call (fw_Col_ok hp164), .call (fw_Tape_Next_ok hp166), .call (fw_Num_ok hp168), .call (fw_Bin_ok hp170), .b false GSet.cells ([(GSet.mk x155 p169)]), .frz 10091 112] ?_
                refine AConf.joinR ?_
                exact AConf.fin
              · refine AConf.go sys 0 110 [.k hb152] ?_
                rcases ite_or h with ⟨hb171, h⟩ | ⟨hb171, h⟩
                · obtain ⟨p172, hp173, h⟩ := bind_some h
                  obtain ⟨x174, hv175, h⟩ := bind_some h
                  obtain ⟨p176, hp177, h⟩ := bind_some h
                  obtain ⟨p178, hp179, h⟩ := bind_some h
                  obtain ⟨p180, hp181, h⟩ := bind_some h
                  obtain ⟨p182, hp183, h⟩ := bind_some h
                  obtain ⟨p184, hp185, h⟩ := bind_some h
                  obtain ⟨p186, hp187, h⟩ := bind_some h
                  obtain ⟨p188, hp189, h⟩ := bind_some h
                  obtain rfl := Option.some.inj h
                  refine AConf.go sys 0 110 [.k hb171, .b false cS ([[110], [109]]), .call (fw_Tape_Next_ok hp173), .x cS hv175, .x cS hv175, .call (fw_Tape_Next_ok hp177), .call (fw_Col_ok hp179), .call (fw_Tape_Next_ok hp181), .call (fw_Num_ok hp183), .call (fw_Bin_ok hp185), .b false GSet.cells ([(GSet.mk x174 p184)]), .call (fw_Tape_Small_ok hp187), .call (fw_Between_ok hp189), .br false GExpr.cells_eq ([p188]), .frz 10322 111, .frz 10322 112] ?_
                  refine AConf.joinR ?_
                  exact AConf.fin
                · refine AConf.go sys 0 110 [.k hb171] ?_
                  rcases ite_or h with ⟨hb190, h⟩ | ⟨hb190, h⟩
                  · refine AConf.go sys 10374 110 [.k hb190] ?_
                    refine AConf.join (ι := Bool) (bodyOf Tryz.f37) [4, 1, 5, 1, 5, 1, 5, 1, 3, 1, 2, 1, 1, 1, 1, 1] (fun q192 => Fw_Tape_action.j8 k a1 a3 q52 p147 q192 = some r) (fun (q192 : Bool) => ([(0, some (.ptr 0 0)), (5, some (.ptr 100 0)), (7, some (.ptr 102 0)), (8, some (.ptr 103 0)), (10, some (.ptr 104 0)), (145, some (pB q192))], [(0, some (.var (GTape.pvs p147.2))), (100, some (.var (GTrigger.pvs a1))), (102, some (.var (GPlace.pvs a3))), (103, some (.var [(pI 0), (pS []), pN, pN, pN, pN, (pS [])])), (104, some (.var [(pI q52.2.1), (pI q52.2.2.1), (pB q52.2.2.2.1), (pI q52.2.2.2.2.1), (pI q52.2.2.2.2.2.1), (pS q52.2.2.2.2.2.2.1), (pS q52.2.2.2.2.2.2.2.1), (pS q52.2.2.2.2.2.2.2.2.1), (pL GExpr.cells q52.2.2.2.2.2.2.2.2.2.1), (pL GQuery.cells q52.2.2.2.2.2.2.2.2.2.2)]))])) ?_ fun q192 h => ?_
                    · rcases ite_or h with ⟨hb230, h⟩ | ⟨hb230, h⟩
                      · refine AConf.go sys 0 114 [.kk 3 hb230] ?_
                        exact AConf.joinN (i := (!decide (a1.Table = ([108, 111, 103])))) h
                      · refine AConf.go sys 0 114 [.kk 3 hb230] ?_
                        exact AConf.joinN (i := false) h
                    · unfold Fw_Tape_action.j8 at h
                      rcases ite_or h with ⟨hb193, h⟩ | ⟨hb193, h⟩
                      · refine AConf.go sys 5134 110 [.k hb193] ?_
                        refine AConf.join (ι := List UInt8) (bodyOf Tryz.f37) [1, 4, 1, 4, 1, 5, 1, 5, 1, 5, 1, 3, 1, 2, 1, 1, 1, 1, 1] (fun q195 => Fw_Tape_action.j9 k a3 q52 p147 q195 = some r) (fun (q195 : List UInt8) => ([(0, some (.ptr 0 0)), (7, some (.ptr 102 0)), (8, some (.ptr 103 0)), (10, some (.ptr 104 0)), (14, some (pS q195))], [(0, some (.var (GTape.pvs p147.2))), (102, some (.var (GPlace.pvs a3))), (103, some (.var [(pI 0), (pS []), pN, pN, pN, pN, (pS [])])), (104, some (.var [(pI q52.2.1), (pI q52.2.2.1), (pB q52.2.2.2.1), (pI q52.2.2.2.2.1), (pI q52.2.2.2.2.2.1), (pS q52.2.2.2.2.2.2.1), (pS q52.2.2.2.2.2.2.2.1), (pS q52.2.2.2.2.2.2.2.2.1), (pL GExpr.cells q52.2.2.2.2.2.2.2.2.2.1), (pL GQuery.cells q52.2.2.2.2.2.2.2.2.2.2)]))])) ?_ fun q195 h => ?_
                        · rcases ite_or h with ⟨hb229, h⟩ | ⟨hb229, h⟩
                          · refine AConf.go sys 0 114 [.k hb229] ?_
                            exact AConf.joinN (i := ([79, 76, 68])) h
                          · refine AConf.go sys 0 114 [.k hb229] ?_
                            exact AConf.joinN (i := ([78, 69, 87])) h
                        · unfold Fw_Tape_action.j9 at h
                          obtain ⟨p196, hp197, h⟩ := bind_some h
                          obtain ⟨x198, hv199, h⟩ := bind_some h
                          obtain ⟨p200, hp201, h⟩ := bind_some h
                          obtain ⟨p202, hp203, h⟩ := bind_some h
                          obtain ⟨p204, hp205, h⟩ := bind_some h
                          refine AConf.go sys 2933 110 [.b false cS ([[116], [117]]), .call (fw_Tape_Next_ok hp197), .x cS hv199, .x cS hv199, .call (fw_Col_ok hp201), .call (fw_Col_ok hp203), .call (fw_Bin_ok hp205)] ?_
                          refine AConf.join (ι := GTape × Int × Int × Bool × Int × Int × (List UInt8) × (List UInt8) × (List UInt8) × (List GExpr) × (List GQuery)) (bodyOf Tryz.f37) [1, 1, 1, 1, 4, 1, 4, 1, 5, 1, 5, 1, 5, 1, 3, 1, 2, 1, 1, 1, 1, 1] (fun q217 => Fw_Tape_action.j10 q52 x198 q217 = some r) (fun (q217 : GTape × Int × Int × Bool × Int × Int × (List UInt8) × (List UInt8) × (List UInt8) × (List GExpr) × (List GQuery)) => ([(0, some (.ptr 0 0)), (7, some (.ptr 102 0)), (8, some (.ptr 103 0)), (10, some (.ptr 104 0)), (15, some (pS x198)), (16, some (.ptr 111 0))], [(0, some (.var (GTape.pvs q217.1))), (102, some (.var (GPlace.pvs a3))), (103, some (.var [(pI 0), (pS []), pN, pN, pN, pN, (pS [])])), (104, some (.var [(pI q52.2.1), (pI q52.2.2.1), (pB q52.2.2.2.1), (pI q52.2.2.2.2.1), (pI q52.2.2.2.2.2.1), (pS q52.2.2.2.2.2.2.1), (pS q52.2.2.2.2.2.2.2.1), (pS q52.2.2.2.2.2.2.2.2.1), (pL GExpr.cells q52.2.2.2.2.2.2.2.2.2.1), (pL GQuery.cells q52.2.2.2.2.2.2.2.2.2.2)])), (111, some (.var [(pI q217.2.1), (pI q217.2.2.1), (pB q217.2.2.2.1), (pI q217.2.2.2.2.1), (pI q217.2.2.2.2.2.1), (pS q217.2.2.2.2.2.2.1), (pS q217.2.2.2.2.2.2.2.1), (pS q217.2.2.2.2.2.2.2.2.1), (pL GExpr.cells q217.2.2.2.2.2.2.2.2.2.1), (pL GQuery.cells q217.2.2.2.2.2.2.2.2.2.2)]))])) ?_ fun q217 h => ?_
                          · obtain ⟨p218, hp219, h⟩ := bind_some h
                            refine AConf.go sys 0 114 [.call (fw_Tape_Bool_ok hp219)] ?_
                            rcases ite_or h with ⟨hb220, h⟩ | ⟨hb220, h⟩
                            · obtain ⟨p221, hp222, h⟩ := bind_some h
                              obtain ⟨p223, hp224, h⟩ := bind_some h
                              obtain ⟨p225, hp226, h⟩ := bind_some h
                              obtain ⟨p227, hp228, h⟩ := bind_some h
                              refine AConf.go sys 0 114 [.k hb220, .call (fw_Schema_ok hp222), .call (fw_Inside_ok hp224), .call (fw_Tape_Expr_ok hp226), .call (fw_Bin_ok hp228)] ?_
                              exact AConf.joinN (i := (p225.2, p227.Kind, p227.Op, p227.Not, p227.Value.Kind, p227.Value.Int, p227.Value.Text, p227.Table, p227.Name, p227.Args, p227.Sub)) h
                            · refine AConf.go sys 0 114 [.k hb220] ?_
                              exact AConf.joinN (i := (p218.2, p204.Kind, p204.Op, p204.Not, p204.Value.Kind, p204.Value.Int, p204.Value.Text, p204.Table, p204.Name, p204.Args, p204.Sub)) h
                          · unfold Fw_Tape_action.j10 at h
                            obtain rfl := Option.some.inj h
                            refine AConf.go sys 0 112 [.b false GSet.cells ([(GSet.mk ([110]) (GExpr.mk ((GExpr.mk q52.2.1 q52.2.2.1 q52.2.2.2.1 (GValue.mk q52.2.2.2.2.1 q52.2.2.2.2.2.1 q52.2.2.2.2.2.2.1) q52.2.2.2.2.2.2.2.1 q52.2.2.2.2.2.2.2.2.1 q52.2.2.2.2.2.2.2.2.2.1 q52.2.2.2.2.2.2.2.2.2.2).Kind) ((GExpr.mk q52.2.1 q52.2.2.1 q52.2.2.2.1 (GValue.mk q52.2.2.2.2.1 q52.2.2.2.2.2.1 q52.2.2.2.2.2.2.1) q52.2.2.2.2.2.2.2.1 q52.2.2.2.2.2.2.2.2.1 q52.2.2.2.2.2.2.2.2.2.1 q52.2.2.2.2.2.2.2.2.2.2).Op) ((GExpr.mk q52.2.1 q52.2.2.1 q52.2.2.2.1 (GValue.mk q52.2.2.2.2.1 q52.2.2.2.2.2.1 q52.2.2.2.2.2.2.1) q52.2.2.2.2.2.2.2.1 q52.2.2.2.2.2.2.2.2.1 q52.2.2.2.2.2.2.2.2.2.1 q52.2.2.2.2.2.2.2.2.2.2).Not) (GValue.mk ((GExpr.mk q52.2.1 q52.2.2.1 q52.2.2.2.1 (GValue.mk q52.2.2.2.2.1 q52.2.2.2.2.2.1 q52.2.2.2.2.2.2.1) q52.2.2.2.2.2.2.2.1 q52.2.2.2.2.2.2.2.2.1 q52.2.2.2.2.2.2.2.2.2.1 q52.2.2.2.2.2.2.2.2.2.2).Value.Kind) ((GExpr.mk q52.2.1 q52.2.2.1 q52.2.2.2.1 (GValue.mk q52.2.2.2.2.1 q52.2.2.2.2.2.1 q52.2.2.2.2.2.2.1) q52.2.2.2.2.2.2.2.1 q52.2.2.2.2.2.2.2.2.1 q52.2.2.2.2.2.2.2.2.2.1 q52.2.2.2.2.2.2.2.2.2.2).Value.Int) ((GExpr.mk q52.2.1 q52.2.2.1 q52.2.2.2.1 (GValue.mk q52.2.2.2.2.1 q52.2.2.2.2.2.1 q52.2.2.2.2.2.2.1) q52.2.2.2.2.2.2.2.1 q52.2.2.2.2.2.2.2.2.1 q52.2.2.2.2.2.2.2.2.2.1 q52.2.2.2.2.2.2.2.2.2.2).Value.Text)) ((GExpr.mk q52.2.1 q52.2.2.1 q52.2.2.2.1 (GValue.mk q52.2.2.2.2.1 q52.2.2.2.2.2.1 q52.2.2.2.2.2.2.1) q52.2.2.2.2.2.2.2.1 q52.2.2.2.2.2.2.2.2.1 q52.2.2.2.2.2.2.2.2.2.1 q52.2.2.2.2.2.2.2.2.2.2).Table) ((GExpr.mk q52.2.1 q52.2.2.1 q52.2.2.2.1 (GValue.mk q52.2.2.2.2.1 q52.2.2.2.2.2.1 q52.2.2.2.2.2.2.1) q52.2.2.2.2.2.2.2.1 q52.2.2.2.2.2.2.2.2.1 q52.2.2.2.2.2.2.2.2.2.1 q52.2.2.2.2.2.2.2.2.2.2).Name) ((GExpr.mk q52.2.1 q52.2.2.1 q52.2.2.2.1 (GValue.mk q52.2.2.2.2.1 q52.2.2.2.2.2.1 q52.2.2.2.2.2.2.1) q52.2.2.2.2.2.2.2.1 q52.2.2.2.2.2.2.2.2.1 q52.2.2.2.2.2.2.2.2.2.1 q52.2.2.2.2.2.2.2.2.2.2).Args) ((GExpr.mk q52.2.1 q52.2.2.1 q52.2.2.2.1 (GValue.mk q52.2.2.2.2.1 q52.2.2.2.2.2.1 q52.2.2.2.2.2.2.1) q52.2.2.2.2.2.2.2.1 q52.2.2.2.2.2.2.2.2.1 q52.2.2.2.2.2.2.2.2.2.1 q52.2.2.2.2.2.2.2.2.2.2).Sub)))]), .br false GExpr.cells_eq ([(GExpr.mk q217.2.1 q217.2.2.1 q217.2.2.2.1 (GValue.mk q217.2.2.2.2.1 q217.2.2.2.2.2.1 q217.2.2.2.2.2.2.1) q217.2.2.2.2.2.2.2.1 q217.2.2.2.2.2.2.2.2.1 q217.2.2.2.2.2.2.2.2.2.1 q217.2.2.2.2.2.2.2.2.2.2)]), .frz 2130 112, .frz 2130 113] ?_
                            refine AConf.joinR ?_
                            exact AConf.fin
                      · refine AConf.go sys 0 110 [.k hb193] ?_
                        exact AConf.joinN (i := p147.2) h
                  · refine AConf.go sys 0 110 [.k hb190] ?_
                    rcases ite_or h with ⟨hb231, h⟩ | ⟨hb231, h⟩
                    · obtain ⟨p232, hp233, h⟩ := bind_some h
                      obtain ⟨p234, hp235, h⟩ := bind_some h
                      obtain ⟨p236, hp237, h⟩ := bind_some h
                      obtain rfl := Option.some.inj h
                      refine AConf.go sys 0 110 [.k hb231, .call (fw_Tape_Table_ok hp233), .call (fw_Col_ok hp235), .call (fw_Bin_ok hp237), .br false GExpr.cells_eq ([p236]), .frz 5477 110] ?_
                      refine AConf.joinR ?_
                      exact AConf.fin
                    · refine AConf.go sys 0 110 [.k hb231] ?_
                      exact AConf.joinN (i := p147.2) h
          · unfold Fw_Tape_action.j7 at h
            obtain ⟨p145, hp146, h⟩ := bind_some h
            obtain rfl := Option.some.inj h
            refine AConf.go sys 0 110 [.call (fw_Tape_Change_ok hp146)] ?_
            exact AConf.fin

-- (*triggerstore/triggerstoreworld.Tape).certify
def Fw_Tape_certify.j1 (k : Nat) (a1 : GTrigger) (q12 : Bool × GTape) : Option (GTape × GTrigger) :=
  (if q12.1 = true then (some ((q12.2), a1)) else ((Fw_Tape_Next k (q12.2) 2).bind fun p14 => ((idx ([[110], [109]]) p14.1).bind fun x16 => ((Fw_Tape_Small k p14.2).bind fun p18 => ((Fw_Tape_Next k p18.2 12).bind fun p20 => ((Fw_Tape_Bool k p20.2 2).bind fun p25 => (if p25.1 = true then (some (p25.2, (GTrigger.mk a1.Name a1.Table a1.Before a1.Event a1.Of a1.EachRow a1.Precedes a1.Follows ([(GRank.mk ([117]) x16 p18.1 (w64 (p18.1 + p20.1)))]) a1.When a1.Actions))) else ((Fw_Col k [] x16).bind fun p28 => ((Fw_Tape_Next k p25.2 3).bind fun p30 => ((Fw_Num k (w64 (1 + p30.1))).bind fun p32 => ((Fw_Bin k 10 p28 p32).bind fun p34 => ((idx ([(GRank.mk ([117]) x16 p18.1 (w64 (p18.1 + p20.1)))]) 0).bind fun x36 => ((Fw_Between k x16 p18.1 x36.High).bind fun p38 => (some (p30.2, (GTrigger.mk a1.Name a1.Table a1.Before a1.Event a1.Of false a1.Precedes a1.Follows ([(GRank.mk ([117]) x16 p18.1 (w64 (p18.1 + p20.1)))]) [] ([(GAction.mk 2 ([117]) [] [] ([(GSet.mk x16 p34)]) ([p38]) [])])))))))))))))))))
def Fw_Tape_certify (k : Nat) (a0 : GTape) (a1 : GTrigger) : Option (GTape × GTrigger) :=
  (if a1.Before = true then (Fw_Tape_certify.j1 k a1 (true, a0)) else ((Fw_Tape_Bool k a0 3).bind fun p41 => (Fw_Tape_certify.j1 k a1 ((!p41.1), p41.2))))
theorem fw_Tape_certify_ok {k : Nat} {a0 : GTape} {a1 : GTrigger} {r : GTape × GTrigger} (h : Fw_Tape_certify k a0 a1 = some r) :
    ACalls Tryz.prog gl 38 [(.ptr 0 0), (.ptr 1 0)] [(0, some (.var (GTape.pvs a0))), (1, some (.var (GTrigger.pvs a1)))] (.tup []) [(0, some (.var (GTape.pvs r.1))), (1, some (.var (GTrigger.pvs r.2)))] [] := by
  refine ACalls.enter sys Tryz.func38 fun w F ν => ?_
  unfold Fw_Tape_certify at h
  refine AConf.go sys 8000 100 [] ?_
  refine AConf.join (ι := Bool × GTape) (bodyOf Tryz.f38) [0] (fun q12 => Fw_Tape_certify.j1 k a1 q12 = some r) (fun (q12 : Bool × GTape) => ([(0, some (.ptr 0 0)), (1, some (.ptr 1 0)), (14, some (pB q12.1))], [(0, some (.var (GTape.pvs q12.2))), (1, some (.var (GTrigger.pvs a1)))])) ?_ fun q12 h => ?_
  · rcases ite_or h with ⟨hb40, h⟩ | ⟨hb40, h⟩
    · refine AConf.go sys 0 105 [.kk 3 hb40] ?_
      exact AConf.joinN (i := (true, a0)) h
    · obtain ⟨p41, hp42, h⟩ := bind_some h
      refine AConf.go sys 0 105 [.kk 1 hb40, .call (fw_Tape_Bool_ok hp42), .kk 1 hb40] ?_
      exact AConf.joinN (i := ((!p41.1), p41.2)) h
  · unfold Fw_Tape_certify.j1 at h
    rcases ite_or h with ⟨hb13, h⟩ | ⟨hb13, h⟩
    · obtain rfl := Option.some.inj h
      refine AConf.go sys 0 100 [.k hb13] ?_
      exact AConf.fin
    · obtain ⟨p14, hp15, h⟩ := bind_some h
      obtain ⟨x16, hv17, h⟩ := bind_some h
      obtain ⟨p18, hp19, h⟩ := bind_some h
      obtain ⟨p20, hp21, h⟩ := bind_some h
      obtain ⟨p25, hp26, h⟩ := bind_some h
      refine AConf.go sys 0 100 [.k hb13, .b false cS ([[110], [109]]), .call (fw_Tape_Next_ok hp15), .x cS hv17, .x cS hv17, .call (fw_Tape_Small_ok hp19), .call (fw_Tape_Next_ok hp21), .b false GRank.cells ([(GRank.mk ([117]) x16 p18.1 (w64 (p18.1 + p20.1)))]), .call (fw_Tape_Bool_ok hp26)] ?_
      rcases ite_or h with ⟨hb27, h⟩ | ⟨hb27, h⟩
      · obtain rfl := Option.some.inj h
        refine AConf.go sys 0 102 [.k hb27, .frz 8742 101] ?_
        exact AConf.fin
      · obtain ⟨p28, hp29, h⟩ := bind_some h
        obtain ⟨p30, hp31, h⟩ := bind_some h
        obtain ⟨p32, hp33, h⟩ := bind_some h
        obtain ⟨p34, hp35, h⟩ := bind_some h
        obtain ⟨x36, hv37, h⟩ := bind_some h
        obtain ⟨p38, hp39, h⟩ := bind_some h
        obtain rfl := Option.some.inj h
        refine AConf.go sys 0 102 [.k hb27, .call (fw_Col_ok hp29), .call (fw_Tape_Next_ok hp31), .call (fw_Num_ok hp33), .call (fw_Bin_ok hp35), .b false GSet.cells ([(GSet.mk x16 p34)]), .x GRank.cells hv37, .x GRank.cells hv37, .call (fw_Between_ok hp39), .br false GExpr.cells_eq ([p38]), .b false GAction.cells ([(GAction.mk 2 ([117]) [] [] ([(GSet.mk x16 p34)]) ([p38]) [])]), .frz 27 101, .frz 27 104] ?_
        exact AConf.fin

-- (*triggerstore/triggerstoreworld.Tape).named
def Fw_Tape_named.j5 (s74 : (List (List UInt8)) × GTape) (x76 : GTrigger) (q81 : Bool × GTape) : Option (Go.Ab.Step ((List (List UInt8)) × GTape) ((List (List UInt8)) × GTape)) :=
  (if q81.1 = true then ((app 16 s74.1 ([x76.Name])).bind fun l83 => (some (.cont (l83, (q81.2))))) else (some (.cont (s74.1, (q81.2)))))
def Fw_Tape_named.b1 (k : Nat) (x76 : GTrigger) (i75 : Nat) (s74 : (List (List UInt8)) × GTape) : Option (Go.Ab.Step ((List (List UInt8)) × GTape) ((List (List UInt8)) × GTape)) :=
  ((Fw_Tape_Bool k (s74.2) 4).bind fun p85 => (if p85.1 = true then (Fw_Tape_named.j5 s74 x76 (decide ((s74.1.length : Int) < 8), p85.2)) else (Fw_Tape_named.j5 s74 x76 (false, p85.2))))
def Fw_Tape_named (k : Nat) (a0 : GTape) (a1 : List GTrigger) : Option ((List (List UInt8)) × GTape) :=
  ((loopL (Fw_Tape_named.b1 k) a1 0 (([] : List (List UInt8)), a0)).bind fun out => Out.el out (fun r0 => some r0) fun s88 => (some (s88.1, (s88.2))))
theorem fw_Tape_named_ok {k : Nat} {a0 : GTape} {a1 : List GTrigger} {r : (List (List UInt8)) × GTape} (h : Fw_Tape_named k a0 a1 = some r) :
    ACalls Tryz.prog gl 34 [(.ptr 0 0), (pL GTrigger.cells a1)] [(0, some (.var (GTape.pvs a0)))] (pL cS r.1) [(0, some (.var (GTape.pvs r.2)))] [] := by
  refine ACalls.enter sys Tryz.func34 fun w F ν => ?_
  unfold Fw_Tape_named at h
  refine AConf.go sys 0 100 [.l GTrigger.cells a1, .ownR 8953 false 5 108 9 1] ?_
  refine AConf.range (bodyOf Tryz.f34) [1, 0, 1, 1] (fun (s74 : (List (List UInt8)) × GTape) => ([(0, some (.ptr 0 0)), (4, some pN), (5, some (.osl 108)), (8, some (pL GTrigger.cells a1)), (9, some (pI (a1.length : Int)))], [(108, some (.arr false 9 1 (s74.1.map cS))), (0, some (.var (GTape.pvs s74.2)))])) (bR 1 GTrigger.cells) h (fun _ h => h.symm) (fun s88 h => ?_) (fun i75 x76 s74 o73 hx77 h hrt => ?_)
  · obtain rfl := Option.some.inj h
    refine AConf.go sys 0 112 [.frz 8960 108] ?_
    exact AConf.fin
  · unfold Fw_Tape_named.b1 at h
    refine AConf.go sys 7949 109 [.e GTrigger.cells hx77] ?_
    refine AConf.join (ι := Bool × GTape) (bodyOf Tryz.f34) [1, 9, 1, 0, 1, 1] (fun q81 => Fw_Tape_named.j5 s74 x76 q81 = some o73) (fun (q81 : Bool × GTape) => ([(0, some (.ptr 0 0)), (4, some pN), (5, some (.osl 108)), (7, some (.ptr 109 0)), (8, some (pL GTrigger.cells a1)), (9, some (pI (a1.length : Int))), (10, some (pI (i75 : Int))), (20, some (pB q81.1))], [(108, some (.arr false 9 1 (s74.1.map cS))), (0, some (.var (GTape.pvs q81.2))), (109, some (.var (GTrigger.pvs x76)))])) ?_ fun q81 h => ?_
    · obtain ⟨p85, hp86, h⟩ := bind_some h
      refine AConf.go sys 0 112 [.call (fw_Tape_Bool_ok hp86)] ?_
      rcases ite_or h with ⟨hb87, h⟩ | ⟨hb87, h⟩
      · refine AConf.go sys 0 112 [.kk 1 hb87, .l cS s74.1, .kk 1 hb87] ?_
        exact AConf.joinN (i := (decide ((s74.1.length : Int) < 8), p85.2)) h
      · refine AConf.go sys 0 112 [.kk 3 hb87] ?_
        exact AConf.joinN (i := (false, p85.2)) h
    · unfold Fw_Tape_named.j5 at h
      rcases ite_or h with ⟨hb82, h⟩ | ⟨hb82, h⟩
      · obtain ⟨l83, hv84, h⟩ := bind_some h
        refine AConf.go sys 0 110 [.k hb82, .b false cS ([x76.Name]), .a false (f := cS) (sz := 1) (fun _ => rfl) hv84, .kp 6 [0, 4, 5, 8, 9, 10] [0, 111], .ren 6 111 108] ?_
        exact AConf.rngC h
      · refine AConf.go sys 0 110 [.k hb82] ?_
        exact AConf.rngC h

-- triggerstore/triggerstoreref17.transition
def Fr17_transition.b1 (x38 : GColumn) (i37 : Nat) (s36 : List GColumn) : Option (Go.Ab.Step GTable (List GColumn)) :=
  ((app 32 s36 ([(GColumn.mk x38.Name x38.Typ false false)])).bind fun l40 => (some (.cont l40)))
def Fr17_transition.j0 (a0 : List UInt8) (p1 : List GRow) (s42 : List GColumn) (q46 : Int) : Option GTable :=
  (some (GTable.mk (GSchema.mk a0 s42) q46 p1))
def Fr17_transition (k : Nat) (a0 : List UInt8) (a1 : GSchema) (a2 : List GRow) : Option GTable :=
  ((Fr17_copyRows k a2).bind fun p1 => ((loopL (Fr17_transition.b1) a1.Columns 0 ([] : List GColumn)).bind fun out => Out.el out (fun r0 => some r0) fun s42 => (if decide (0 < (a2.length : Int)) = true then ((idx a2 (w64 ((a2.length : Int) - 1))).bind fun x48 => (Fr17_transition.j0 a0 p1 s42 (w64 (x48.ID + 1)))) else (Fr17_transition.j0 a0 p1 s42 1))))
theorem fr17_transition_ok {k : Nat} {a0 : List UInt8} {a1 : GSchema} {a2 : List GRow} {r : GTable} (h : Fr17_transition k a0 a1 a2 = some r) :
    ACalls Tryz.prog gl 87 [(pS a0), (.agg (GSchema.pvs a1)), (pL GRow.cells a2)] [] (.agg (GTable.pvs r)) [] [] := by
  refine ACalls.enter sys Tryz.func87 fun w F ν => ?_
  unfold Fr17_transition at h
  obtain ⟨p1, hp2, h⟩ := bind_some h
  refine AConf.go sys 0 100 [.call (fr17_copyRows_ok hp2), .l GColumn.cells a1.Columns, .ownC 8953 false 102 1 111 98 4] ?_
  refine AConf.range (bodyOf Tryz.f87) [1, 0, 1, 1] (fun (s36 : List GColumn) => ([(2, some (pL GRow.cells a2)), (6, some (.ptr 101 0)), (7, some (.ptr 102 0)), (16, some (pL GColumn.cells a1.Columns)), (17, some (pI (a1.Columns.length : Int)))], [(101, some (.var [(pS []), pN, (pI 0), pN])), (111, some (.arr false 98 4 (s36.map GColumn.cells))), (102, some (.var [(pS a0), (.osl 111), (pI 1), (pL GRow.cells p1)]))])) (bR 16 GColumn.cells) h (fun _ h => h.symm) (fun s42 h => ?_) (fun i37 x38 s36 o35 hx39 h hrt => ?_)
  · refine AConf.go sys 1137 115 [] ?_
    refine AConf.join (ι := Int) (bodyOf Tryz.f87) [1, 1, 1] (fun q46 => Fr17_transition.j0 a0 p1 s42 q46 = some r) (fun (q46 : Int) => ([(6, some (.ptr 101 0)), (7, some (.ptr 102 0))], [(101, some (.var [(pS []), pN, (pI 0), pN])), (111, some (.arr false 98 4 (s42.map GColumn.cells))), (102, some (.var [(pS a0), (.osl 111), (pI q46), (pL GRow.cells p1)]))])) ?_ fun q46 h => ?_
    · refine AConf.go sys 0 115 [.l GRow.cells a2] ?_
      rcases ite_or h with ⟨hb47, h⟩ | ⟨hb47, h⟩
      · obtain ⟨x48, hv49, h⟩ := bind_some h
        refine AConf.go sys 0 115 [.k hb47, .l GRow.cells a2, .x GRow.cells hv49] ?_
        exact AConf.joinN (i := (w64 (x48.ID + 1))) h
      · refine AConf.go sys 0 115 [.k hb47] ?_
        exact AConf.joinN (i := 1) h
    · unfold Fr17_transition.j0 at h
      obtain rfl := Option.some.inj h
      refine AConf.go sys 0 115 [.frz 3883 111] ?_
      exact AConf.fin
  · unfold Fr17_transition.b1 at h
    obtain ⟨l40, hv41, h⟩ := bind_some h
    refine AConf.go sys 0 112 [.e GColumn.cells hx39, .b false GColumn.cells ([(GColumn.mk x38.Name x38.Typ false false)]), .a false GColumn.cells_len hv41, .kp 13 [2, 6, 7, 16, 17, 18] [101, 102, 114], .ren 13 114 111] ?_
    exact AConf.rngC h

-- triggerstore/triggerstoreref17.Transitions
def Fr17_Transitions.b1 (x53 : GPair) (i52 : Nat) (s51 : (List GRow) × (List GRow)) : Option (Go.Ab.Step (List GTable) ((List GRow) × (List GRow))) :=
  ((app 32 s51.1 ([(GRow.mk x53.ID x53.Old)])).bind fun l55 => ((app 32 s51.2 ([(GRow.mk x53.ID x53.New)])).bind fun l57 => (some (.cont (l55, l57)))))
def Fr17_Transitions.j1 (k : Nat) (a0 : GTrigger) (a1 : GSchema) (a2 : GDelta) (q6 : Bool) : Option (List GTable) :=
  (if q6 = true then (some []) else ((loopL (Fr17_Transitions.b1) a2.Updated 0 (([] : List GRow), ([] : List GRow))).bind fun out => Out.el out (fun r0 => some r0) fun s59 => (if decide (a0.Event = 1) = true then ((Fr17_transition k ([73, 78, 83, 69, 82, 84, 69, 68]) a1 a2.Inserted).bind fun p72 => (some ([p72]))) else (if decide (a0.Event = 3) = true then ((Fr17_transition k ([68, 69, 76, 69, 84, 69, 68]) a1 a2.Deleted).bind fun p75 => (some ([p75]))) else (if decide (a0.Event = 2) = true then ((Fr17_transition k ([68, 69, 76, 69, 84, 69, 68]) a1 s59.1).bind fun p78 => ((Fr17_transition k ([73, 78, 83, 69, 82, 84, 69, 68]) a1 s59.2).bind fun p80 => (some ([p78, p80])))) else (some []))))))
def Fr17_Transitions (k : Nat) (a0 : GTrigger) (a1 : GSchema) (a2 : GDelta) : Option (List GTable) :=
  (if a0.Before = true then (Fr17_Transitions.j1 k a0 a1 a2 true) else (Fr17_Transitions.j1 k a0 a1 a2 a0.EachRow))
theorem fr17_Transitions_ok {k : Nat} {a0 : GTrigger} {a1 : GSchema} {a2 : GDelta} {r : List GTable} (h : Fr17_Transitions k a0 a1 a2 = some r) :
    ACalls Tryz.prog gl 43 [(.agg (GTrigger.pvs a0)), (.agg (GSchema.pvs a1)), (.agg (GDelta.pvs a2))] [] (pL GTable.cells r) [] [] := by
  refine ACalls.enter sys Tryz.func43 fun w F ν => ?_
  unfold Fr17_Transitions at h
  refine AConf.go sys 7142 100 [] ?_
  refine AConf.join (ι := Bool) (bodyOf Tryz.f43) [0, 1] (fun q6 => Fr17_Transitions.j1 k a0 a1 a2 q6 = some r) (fun (q6 : Bool) => ([(3, some (.ptr 100 0)), (4, some (.ptr 101 0)), (5, some (.ptr 102 0)), (6, some pN), (16, some (pB q6))], [(100, some (.var (GTrigger.pvs a0))), (101, some (.var (GSchema.pvs a1))), (102, some (.var (GDelta.pvs a2)))])) ?_ fun q6 h => ?_
  · rcases ite_or h with ⟨hb82, h⟩ | ⟨hb82, h⟩
    · refine AConf.go sys 0 125 [.kk 2 hb82] ?_
      exact AConf.joinN (i := true) h
    · refine AConf.go sys 0 125 [.kk 2 hb82] ?_
      exact AConf.joinN (i := a0.EachRow) h
  · unfold Fr17_Transitions.j1 at h
    rcases ite_or h with ⟨hb7, h⟩ | ⟨hb7, h⟩
    · obtain rfl := Option.some.inj h
      refine AConf.go sys 0 103 [.k hb7] ?_
      exact AConf.fin
    · refine AConf.go sys 0 103 [.k hb7, .l GPair.cells a2.Updated, .ownR 3876 false 7 117 93 2, .ownR 3876 false 8 118 93 2] ?_
      refine AConf.range (bodyOf Tryz.f43) [1, 0, 1, 1, 1] (fun (s51 : (List GRow) × (List GRow)) => ([(3, some (.ptr 100 0)), (4, some (.ptr 101 0)), (5, some (.ptr 102 0)), (6, some pN), (7, some (.osl 117)), (8, some (.osl 118)), (18, some (pL GPair.cells a2.Updated)), (19, some (pI (a2.Updated.length : Int)))], [(117, some (.arr false 93 2 (s51.1.map GRow.cells))), (118, some (.arr false 93 2 (s51.2.map GRow.cells))), (100, some (.var (GTrigger.pvs a0))), (101, some (.var (GSchema.pvs a1))), (102, some (.var (GDelta.pvs a2)))])) (bR 18 GPair.cells) h (fun _ h => h.symm) (fun s59 h => ?_) (fun i52 x53 s51 o50 hx54 h hrt => ?_)
      · rcases ite_or h with ⟨hb71, h⟩ | ⟨hb71, h⟩
        · obtain ⟨p72, hp73, h⟩ := bind_some h
          obtain rfl := Option.some.inj h
          refine AConf.go sys 0 124 [.k hb71, .call (fr17_transition_ok hp73), .b false GTable.cells ([p72]), .frz 3503 124] ?_
          exact AConf.fin
        · refine AConf.go sys 0 124 [.k hb71] ?_
          rcases ite_or h with ⟨hb74, h⟩ | ⟨hb74, h⟩
          · obtain ⟨p75, hp76, h⟩ := bind_some h
            obtain rfl := Option.some.inj h
            refine AConf.go sys 0 124 [.k hb74, .call (fr17_transition_ok hp76), .b false GTable.cells ([p75]), .frz 10478 124] ?_
            exact AConf.fin
          · refine AConf.go sys 0 124 [.k hb74] ?_
            rcases ite_or h with ⟨hb77, h⟩ | ⟨hb77, h⟩
            · obtain ⟨p78, hp79, h⟩ := bind_some h
              obtain ⟨p80, hp81, h⟩ := bind_some h
              obtain rfl := Option.some.inj h
              refine AConf.go sys 0 124 [.k hb77, .call (fr17_transition_ok hp79), .call (fr17_transition_ok hp81), .b false GTable.cells ([p78, p80]), .frz 3198 124] ?_
              exact AConf.fin
            · obtain rfl := Option.some.inj h
              refine AConf.go sys 0 124 [.k hb77] ?_
              exact AConf.fin
      · unfold Fr17_Transitions.b1 at h
        obtain ⟨l55, hv56, h⟩ := bind_some h
        obtain ⟨l57, hv58, h⟩ := bind_some h
        refine AConf.go sys 0 119 [.e GPair.cells hx54, .b false GRow.cells ([(GRow.mk x53.ID x53.Old)]), .a false GRow.cells_len hv56, .b false GRow.cells ([(GRow.mk x53.ID x53.New)]), .a false GRow.cells_len hv58, .kp 9 [3, 4, 5, 6, 7, 8, 18, 19, 20] [100, 101, 102, 121, 123], .ren 9 121 117, .ren 9 123 118] ?_
        exact AConf.rngC h

-- triggerstore/triggerstoreref17.Frames
def Fr17_Frames.j3 (q26 : List GFrame) : Option (List GFrame) :=
  (some q26)
def Fr17_Frames.j4 (k : Nat) (a1 : GSchema) (a3 : List GValue) (q13 : List GFrame) (q29 : Bool) : Option (List GFrame) :=
  (if q29 = true then ((app 32 ([] : List GColumn) a1.Columns).bind fun l31 => ((Fr5_Copy k a3).bind fun p33 => ((app 72 q13 ([(GFrame.mk ([78, 69, 87]) true l31 p33)])).bind fun l35 => (Fr17_Frames.j3 l35)))) else (Fr17_Frames.j3 q13))
def Fr17_Frames.j1 (k : Nat) (a0 : GTrigger) (a1 : GSchema) (a3 : List GValue) (q13 : List GFrame) : Option (List GFrame) :=
  (if a0.EachRow = true then (if decide (a0.Event = 2) = true then (Fr17_Frames.j4 k a1 a3 q13 true) else (Fr17_Frames.j4 k a1 a3 q13 (decide (a0.Event = 1)))) else (Fr17_Frames.j4 k a1 a3 q13 false))
def Fr17_Frames.j5 (k : Nat) (a0 : GTrigger) (a1 : GSchema) (a2 : List GValue) (a3 : List GValue) (q41 : Bool) : Option (List GFrame) :=
  (if q41 = true then ((app 32 ([] : List GColumn) a1.Columns).bind fun l43 => ((Fr5_Copy k a2).bind fun p45 => ((app 72 ([] : List GFrame) ([(GFrame.mk ([79, 76, 68]) true l43 p45)])).bind fun l47 => (Fr17_Frames.j1 k a0 a1 a3 l47)))) else (Fr17_Frames.j1 k a0 a1 a3 ([] : List GFrame)))
def Fr17_Frames (k : Nat) (a0 : GTrigger) (a1 : GSchema) (a2 : List GValue) (a3 : List GValue) : Option (List GFrame) :=
  (if a0.EachRow = true then (if decide (a0.Event = 2) = true then (Fr17_Frames.j5 k a0 a1 a2 a3 true) else (Fr17_Frames.j5 k a0 a1 a2 a3 (decide (a0.Event = 3)))) else (Fr17_Frames.j5 k a0 a1 a2 a3 false))
theorem fr17_Frames_ok {k : Nat} {a0 : GTrigger} {a1 : GSchema} {a2 : List GValue} {a3 : List GValue} {r : List GFrame} (h : Fr17_Frames k a0 a1 a2 a3 = some r) :
    ACalls Tryz.prog gl 41 [(.agg (GTrigger.pvs a0)), (.agg (GSchema.pvs a1)), (pL GValue.cells a2), (pL GValue.cells a3)] [] (pL GFrame.cells r) [] [] := by
  refine ACalls.enter sys Tryz.func41 fun w F ν => ?_
  unfold Fr17_Frames at h
  refine AConf.go sys 7143 100 [] ?_
  refine AConf.join (ι := List GFrame) (bodyOf Tryz.f41) [1, 1] (fun q13 => Fr17_Frames.j1 k a0 a1 a3 q13 = some r) (fun (q13 : List GFrame) => ([(3, some (pL GValue.cells a3)), (4, some (.ptr 100 0)), (5, some (.ptr 101 0)), (8, some pN), (9, some (.osl 104))], [(104, some (.arr false 166 4 (q13.map GFrame.cells))), (100, some (.var (GTrigger.pvs a0))), (101, some (.var (GSchema.pvs a1)))])) ?_ fun q13 h => ?_
  · refine AConf.go sys 1138 111 [] ?_
    refine AConf.join (ι := Bool) (bodyOf Tryz.f41) [2, 1, 1] (fun q41 => Fr17_Frames.j5 k a0 a1 a2 a3 q41 = some r) (fun (q41 : Bool) => ([(2, some (pL GValue.cells a2)), (3, some (pL GValue.cells a3)), (4, some (.ptr 100 0)), (5, some (.ptr 101 0)), (8, some pN), (9, some pN), (21, some (pB q41))], [(100, some (.var (GTrigger.pvs a0))), (101, some (.var (GSchema.pvs a1)))])) ?_ fun q41 h => ?_
    · rcases ite_or h with ⟨hb49, h⟩ | ⟨hb49, h⟩
      · refine AConf.go sys 0 114 [.kk 3 hb49] ?_
        rcases ite_or h with ⟨hb50, h⟩ | ⟨hb50, h⟩
        · refine AConf.go sys 0 114 [.kk 2 hb50, .k hb49, .k hb50, .k hb49] ?_
          exact AConf.joinN (i := true) h
        · refine AConf.go sys 0 114 [.kk 2 hb50, .k hb49, .k hb50, .k hb49] ?_
          exact AConf.joinN (i := (decide (a0.Event = 3))) h
      · refine AConf.go sys 0 114 [.kk 5 hb49] ?_
        exact AConf.joinN (i := false) h
    · unfold Fr17_Frames.j5 at h
      rcases ite_or h with ⟨hb42, h⟩ | ⟨hb42, h⟩
      · obtain ⟨l43, hv44, h⟩ := bind_some h
        obtain ⟨p45, hp46, h⟩ := bind_some h
        obtain ⟨l47, hv48, h⟩ := bind_some h
        refine AConf.go sys 0 111 [.k hb42, .a false GColumn.cells_len hv44, .call (fr5_Copy_ok hp46), .b false GFrame.cells ([(GFrame.mk ([79, 76, 68]) true l43 p45)]), .a false GFrame.cells_len hv48, .kp 10 [3, 4, 5, 8, 9] [100, 101, 113], .ren 10 113 104] ?_
        exact AConf.joinN (i := l47) h
      · refine AConf.go sys 0 111 [.k hb42, .kp 3936 [3, 4, 5, 8, 9] [100, 101], .ownR 3936 false 9 104 166 4] ?_
        exact AConf.joinN (i := ([] : List GFrame)) h
  · unfold Fr17_Frames.j1 at h
    refine AConf.go sys 1137 105 [] ?_
    refine AConf.join (ι := List GFrame) (bodyOf Tryz.f41) [1, 1, 1] (fun q26 => Fr17_Frames.j3 q26 = some r) (fun (q26 : List GFrame) => ([(8, some pN), (9, some (.osl 107))], [(107, some (.arr false 166 4 (q26.map GFrame.cells)))])) ?_ fun q26 h => ?_
    · refine AConf.go sys 8961 108 [] ?_
      refine AConf.join (ι := Bool) (bodyOf Tryz.f41) [2, 1, 1, 1] (fun q29 => Fr17_Frames.j4 k a1 a3 q13 q29 = some r) (fun (q29 : Bool) => ([(3, some (pL GValue.cells a3)), (5, some (.ptr 101 0)), (8, some pN), (9, some (.osl 104)), (42, some (pB q29))], [(104, some (.arr false 166 4 (q13.map GFrame.cells))), (101, some (.var (GSchema.pvs a1)))])) ?_ fun q29 h => ?_
      · rcases ite_or h with ⟨hb37, h⟩ | ⟨hb37, h⟩
        · refine AConf.go sys 0 111 [.kk 3 hb37] ?_
          rcases ite_or h with ⟨hb38, h⟩ | ⟨hb38, h⟩
          · refine AConf.go sys 0 111 [.kk 2 hb38, .k hb37, .k hb38, .k hb37] ?_
            exact AConf.joinN (i := true) h
          · refine AConf.go sys 0 111 [.kk 2 hb38, .k hb37, .k hb38, .k hb37] ?_
            exact AConf.joinN (i := (decide (a0.Event = 1))) h
        · refine AConf.go sys 0 111 [.kk 5 hb37] ?_
          exact AConf.joinN (i := false) h
      · unfold Fr17_Frames.j4 at h
        rcases ite_or h with ⟨hb30, h⟩ | ⟨hb30, h⟩
        · obtain ⟨l31, hv32, h⟩ := bind_some h
          obtain ⟨p33, hp34, h⟩ := bind_some h
          obtain ⟨l35, hv36, h⟩ := bind_some h
          refine AConf.go sys 0 108 [.k hb30, .a false GColumn.cells_len hv32, .call (fr5_Copy_ok hp34), .b false GFrame.cells ([(GFrame.mk ([78, 69, 87]) true l31 p33)]), .a false GFrame.cells_len hv36, .kp 10 [8, 9] [110], .ren 10 110 107] ?_
          exact AConf.joinN (i := l35) h
        · refine AConf.go sys 0 108 [.k hb30, .kp 8289 [8, 9] [104], .ren 8289 104 107] ?_
          exact AConf.joinN (i := q13) h
    · unfold Fr17_Frames.j3 at h
      obtain rfl := Option.some.inj h
      refine AConf.go sys 0 108 [.frz 3883 107] ?_
      exact AConf.fin

-- triggerstore/triggerstoreworld.place
def Fw_place.b1 (x58 : GTable) (i57 : Nat) (s56 : (List GSchema) × (List GSchema)) : Option (Go.Ab.Step GPlace ((List GSchema) × (List GSchema))) :=
  ((app 40 s56.2 ([x58.Schema])).bind fun l60 => (some (.cont (l60, l60))))
def Fw_place (k : Nat) (a0 : GTrigger) : Option GPlace :=
  ((Fw_Schema k a0.Table).bind fun p1 => ((Fr17_Frames k a0 p1 [] []).bind fun p3 => ((Fw_Schemas k ).bind fun p5 => ((Fr17_Transitions k a0 p1 (GDelta.mk [] [] [] [])).bind fun p35 => ((loopL (Fw_place.b1) p35 0 (p5, p5)).bind fun out => Out.el out (fun r0 => some r0) fun s62 => (some (GPlace.mk p3 s62.2)))))))
theorem fw_place_ok {k : Nat} {a0 : GTrigger} {r : GPlace} (h : Fw_place k a0 = some r) :
    ACalls Tryz.prog gl 35 [(.agg (GTrigger.pvs a0))] [] (.agg (GPlace.pvs r)) [] [] := by
  refine ACalls.enter sys Tryz.func35 fun w F ν => ?_
  unfold Fw_place at h
  obtain ⟨p1, hp2, h⟩ := bind_some h
  obtain ⟨p3, hp4, h⟩ := bind_some h
  obtain ⟨p5, hp6, h⟩ := bind_some h
  obtain ⟨p35, hp36, h⟩ := bind_some h
  refine AConf.go sys 0 100 [.call (fw_Schema_ok hp2), .call (fr17_Frames_ok hp4), .call (fw_Schemas_ok hp6), .call (fr17_Transitions_ok hp36), .l GTable.cells p35] ?_
  refine AConf.range (bodyOf Tryz.f35) [1, 0, 1, 1, 1] (fun (s56 : (List GSchema) × (List GSchema)) => ([(2, some (.ptr 101 0)), (4, some (.ptr 103 0)), (18, some (pL GTable.cells p35)), (19, some (pI (p35.length : Int)))], [(50, some (.arr false 49 2 (s56.2.map GSchema.cells))), (101, some (.var [pN, pN])), (103, some (.var [(pL GFrame.cells p3), (.osl 50)]))])) (bR 18 GTable.cells) h (fun _ h => h.symm) (fun s62 h => ?_) (fun i57 x58 s56 o55 hx59 h hrt => ?_)
  · obtain rfl := Option.some.inj h
    refine AConf.go sys 0 116 [.frz 3883 50] ?_
    exact AConf.fin
  · unfold Fw_place.b1 at h
    obtain ⟨l60, hv61, h⟩ := bind_some h
    refine AConf.go sys 0 113 [.e GTable.cells hx59, .b false GSchema.cells ([x58.Schema]), .a false GSchema.cells_len hv61, .kp 8 [2, 4, 18, 19, 20] [101, 103, 115], .ren 8 115 50] ?_
    exact AConf.rngC h

-- (*triggerstore/triggerstoreworld.Tape).Trigger
def Fw_Tape_Trigger.b1 (k : Nat) (a1 : List UInt8) (p1 : (List UInt8) × GTape) (p3 : Int × GTape) (p5 : Bool × GTape) (p7 : Bool × GTape) (p9 : GSchema) (q23 : GTape × (List (List UInt8))) (q32 : GTape × (List (List UInt8)) × (List (List UInt8))) (p33 : GPlace) (q40 : GTape × (List GExpr)) (s103 : Int × GTape × (List GAction)) : Option (Go.Ab.Step (GTrigger × GTape) (Int × GTape × (List GAction))) :=
  (if decide (0 < s103.1) = true then ((Fw_Tape_action k (s103.2.1) (GTrigger.mk a1 p1.1 p7.1 (w64 (1 + p3.1)) q23.2 p5.1 q32.2.1 q32.2.2 [] q40.2 s103.2.2) p9 p33).bind fun p110 => ((app 136 s103.2.2 ([p110.1])).bind fun l112 => (some (.cont (w64 (s103.1 - 1), p110.2, l112))))) else (some (.brk (s103.1, (s103.2.1), s103.2.2))))
def Fw_Tape_Trigger.j3 (k : Nat) (a1 : List UInt8) (p1 : (List UInt8) × GTape) (p3 : Int × GTape) (p5 : Bool × GTape) (p7 : Bool × GTape) (p9 : GSchema) (q23 : GTape × (List (List UInt8))) (q32 : GTape × (List (List UInt8)) × (List (List UInt8))) (p33 : GPlace) (q40 : GTape × (List GExpr)) : Option (GTrigger × GTape) :=
  ((Fw_Tape_Next k (q40.1) 2).bind fun p78 => ((loopN (Fw_Tape_Trigger.b1 k a1 p1 p3 p5 p7 p9 q23 q32 p33 q40) k (w64 (1 + p78.1), p78.2, ([] : List GAction))).bind fun out => Out.el out (fun r0 => some r0) fun s114 => ((Fw_Tape_certify k (s114.2.1) (GTrigger.mk a1 p1.1 p7.1 (w64 (1 + p3.1)) q23.2 p5.1 q32.2.1 q32.2.2 [] q40.2 s114.2.2)).bind fun p115 => (some (p115.2, p115.1)))))
def Fw_Tape_Trigger.j2 (k : Nat) (a1 : List UInt8) (p1 : (List UInt8) × GTape) (p3 : Int × GTape) (p5 : Bool × GTape) (p7 : Bool × GTape) (p9 : GSchema) (q23 : GTape × (List (List UInt8))) (q32 : GTape × (List (List UInt8)) × (List (List UInt8))) : Option (GTrigger × GTape) :=
  ((Fw_place k (GTrigger.mk a1 p1.1 p7.1 (w64 (1 + p3.1)) q23.2 p5.1 q32.2.1 q32.2.2 [] [] [])).bind fun p33 => ((Fw_Tape_Bool k (q32.1) 3).bind fun p117 => (if p117.1 = true then ((Fw_Tape_Expr k p117.2 p33 2 1).bind fun p120 => (Fw_Tape_Trigger.j3 k a1 p1 p3 p5 p7 p9 q23 q32 p33 (p120.2, [p120.1]))) else (Fw_Tape_Trigger.j3 k a1 p1 p3 p5 p7 p9 q23 q32 p33 (p117.2, ([] : List GExpr))))))
def Fw_Tape_Trigger.j1 (k : Nat) (a1 : List UInt8) (a2 : List GTrigger) (p1 : (List UInt8) × GTape) (p3 : Int × GTape) (p5 : Bool × GTape) (p7 : Bool × GTape) (p9 : GSchema) (q23 : GTape × (List (List UInt8))) : Option (GTrigger × GTape) :=
  ((Fw_Tape_Next k (q23.1) 3).bind fun p122 => (if decide (p122.1 = 0) = true then ((Fw_Tape_named k p122.2 a2).bind fun p125 => (Fw_Tape_Trigger.j2 k a1 p1 p3 p5 p7 p9 q23 (p125.2, p125.1, []))) else (if decide (p122.1 = 1) = true then ((Fw_Tape_named k p122.2 a2).bind fun p128 => (Fw_Tape_Trigger.j2 k a1 p1 p3 p5 p7 p9 q23 (p128.2, [], p128.1))) else (Fw_Tape_Trigger.j2 k a1 p1 p3 p5 p7 p9 q23 (p122.2, [], [])))))
def Fw_Tape_Trigger.j4 (k : Nat) (a1 : List UInt8) (a2 : List GTrigger) (p1 : (List UInt8) × GTape) (p3 : Int × GTape) (p5 : Bool × GTape) (p7 : Bool × GTape) (p9 : GSchema) (q133 : Bool × GTape) : Option (GTrigger × GTape) :=
  (if q133.1 = true then ((Fw_Tape_Next k (q133.2) (p9.Columns.length : Int)).bind fun p135 => ((idx p9.Columns p135.1).bind fun x137 => (Fw_Tape_Trigger.j1 k a1 a2 p1 p3 p5 p7 p9 (p135.2, [x137.Name])))) else (Fw_Tape_Trigger.j1 k a1 a2 p1 p3 p5 p7 p9 ((q133.2), ([] : List (List UInt8)))))
def Fw_Tape_Trigger (k : Nat) (a0 : GTape) (a1 : List UInt8) (a2 : List GTrigger) : Option (GTrigger × GTape) :=
  ((Fw_Tape_Table k a0).bind fun p1 => ((Fw_Tape_Next k p1.2 3).bind fun p3 => ((Fw_Tape_Bool k p3.2 2).bind fun p5 => ((Fw_Tape_Bool k p5.2 4).bind fun p7 => ((Fw_Schema k p1.1).bind fun p9 => (if decide ((w64 (1 + p3.1)) = 2) = true then ((Fw_Tape_Bool k p7.2 2).bind fun p140 => (Fw_Tape_Trigger.j4 k a1 a2 p1 p3 p5 p7 p9 (p140.1, p140.2))) else (Fw_Tape_Trigger.j4 k a1 a2 p1 p3 p5 p7 p9 (false, p7.2))))))))
theorem fw_Tape_Trigger_ok {k : Nat} {a0 : GTape} {a1 : List UInt8} {a2 : List GTrigger} {r : GTrigger × GTape} (h : Fw_Tape_Trigger k a0 a1 a2 = some r) :
    ACalls Tryz.prog gl 13 [(.ptr 0 0), (pS a1), (pL GTrigger.cells a2)] [(0, some (.var (GTape.pvs a0)))] (.agg (GTrigger.pvs r.1)) [(0, some (.var (GTape.pvs r.2)))] [] := by
  refine ACalls.enter sys Tryz.func13 fun w F ν => ?_
  unfold Fw_Tape_Trigger at h
  obtain ⟨p1, hp2, h⟩ := bind_some h
  obtain ⟨p3, hp4, h⟩ := bind_some h
  obtain ⟨p5, hp6, h⟩ := bind_some h
  obtain ⟨p7, hp8, h⟩ := bind_some h
  obtain ⟨p9, hp10, h⟩ := bind_some h
  refine AConf.go sys 1137 100 [.call (fw_Tape_Table_ok hp2), .call (fw_Tape_Next_ok hp4), .call (fw_Tape_Bool_ok hp6), .call (fw_Tape_Bool_ok hp8), .call (fw_Schema_ok hp10)] ?_
  refine AConf.join (ι := GTape × (List (List UInt8))) (bodyOf Tryz.f13) [1, 1, 1] (fun q23 => Fw_Tape_Trigger.j1 k a1 a2 p1 p3 p5 p7 p9 q23 = some r) (fun (q23 : GTape × (List (List UInt8))) => ([(0, some (.ptr 0 0)), (2, some (pL GTrigger.cells a2)), (6, some (.ptr 100 0)), (7, some (.ptr 101 0)), (8, some (.ptr 102 0))], [(0, some (.var (GTape.pvs q23.1))), (100, some (.var [(pS []), (pS []), (pB false), (pI 0), pN, (pB false), pN, pN, pN, pN, pN])), (103, some (.arr false 9 1 (q23.2.map cS))), (101, some (.var [(pS a1), (pS p1.1), (pB p7.1), (pI (w64 (1 + p3.1))), (.osl 103), (pB p5.1), pN, pN, pN, pN, pN])), (102, some (.var (GSchema.pvs p9)))])) ?_ fun q23 h => ?_
  · refine AConf.go sys 8961 116 [] ?_
    refine AConf.join (ι := Bool × GTape) (bodyOf Tryz.f13) [2, 1, 1, 1] (fun q133 => Fw_Tape_Trigger.j4 k a1 a2 p1 p3 p5 p7 p9 q133 = some r) (fun (q133 : Bool × GTape) => ([(0, some (.ptr 0 0)), (2, some (pL GTrigger.cells a2)), (6, some (.ptr 100 0)), (7, some (.ptr 101 0)), (8, some (.ptr 102 0)), (31, some (pB q133.1))], [(0, some (.var (GTape.pvs q133.2))), (100, some (.var [(pS []), (pS []), (pB false), (pI 0), pN, (pB false), pN, pN, pN, pN, pN])), (101, some (.var [(pS a1), (pS p1.1), (pB p7.1), (pI (w64 (1 + p3.1))), pN, (pB p5.1), pN, pN, pN, pN, pN])), (102, some (.var (GSchema.pvs p9)))])) ?_ fun q133 h => ?_
    · rcases ite_or h with ⟨hb139, h⟩ | ⟨hb139, h⟩
      · obtain ⟨p140, hp141, h⟩ := bind_some h
        refine AConf.go sys 0 117 [.kk 1 hb139, .call (fw_Tape_Bool_ok hp141), .k hb139] ?_
        exact AConf.joinN (i := (p140.1, p140.2)) h
      · refine AConf.go sys 0 117 [.kk 2 hb139] ?_
        exact AConf.joinN (i := (false, p7.2)) h
    · unfold Fw_Tape_Trigger.j4 at h
      rcases ite_or h with ⟨hb134, h⟩ | ⟨hb134, h⟩
      · obtain ⟨p135, hp136, h⟩ := bind_some h
        obtain ⟨x137, hv138, h⟩ := bind_some h
        refine AConf.go sys 0 116 [.k hb134, .l GColumn.cells p9.Columns, .call (fw_Tape_Next_ok hp136), .x GColumn.cells hv138, .b false cS ([x137.Name]), .kp 13 [0, 2, 6, 7, 8] [0, 100, 101, 102, 116], .ren 13 116 103] ?_
        exact AConf.joinN (i := (p135.2, [x137.Name])) h
      · refine AConf.go sys 0 116 [.k hb134, .kp 8289 [0, 2, 6, 7, 8] [0, 100, 101, 102], .ownC 8289 false 101 4 103 9 1] ?_
        exact AConf.joinN (i := ((q133.2), ([] : List (List UInt8)))) h
  · unfold Fw_Tape_Trigger.j1 at h
    refine AConf.go sys 8960 104 [] ?_
    refine AConf.join (ι := GTape × (List (List UInt8)) × (List (List UInt8))) (bodyOf Tryz.f13) [1, 1, 1, 1] (fun q32 => Fw_Tape_Trigger.j2 k a1 p1 p3 p5 p7 p9 q23 q32 = some r) (fun (q32 : GTape × (List (List UInt8)) × (List (List UInt8))) => ([(0, some (.ptr 0 0)), (6, some (.ptr 100 0)), (7, some (.ptr 101 0)), (8, some (.ptr 102 0))], [(0, some (.var (GTape.pvs q32.1))), (100, some (.var [(pS []), (pS []), (pB false), (pI 0), pN, (pB false), pN, pN, pN, pN, pN])), (103, some (.arr false 9 1 (q23.2.map cS))), (101, some (.var [(pS a1), (pS p1.1), (pB p7.1), (pI (w64 (1 + p3.1))), (.osl 103), (pB p5.1), (pL cS q32.2.1), (pL cS q32.2.2), pN, pN, pN])), (102, some (.var (GSchema.pvs p9)))])) ?_ fun q32 h => ?_
    · obtain ⟨p122, hp123, h⟩ := bind_some h
      refine AConf.go sys 0 116 [.call (fw_Tape_Next_ok hp123)] ?_
      rcases ite_or h with ⟨hb124, h⟩ | ⟨hb124, h⟩
      · obtain ⟨p125, hp126, h⟩ := bind_some h
        refine AConf.go sys 0 116 [.k hb124, .call (fw_Tape_named_ok hp126)] ?_
        exact AConf.joinN (i := (p125.2, p125.1, [])) h
      · refine AConf.go sys 0 116 [.k hb124] ?_
        rcases ite_or h with ⟨hb127, h⟩ | ⟨hb127, h⟩
        · obtain ⟨p128, hp129, h⟩ := bind_some h
          refine AConf.go sys 0 116 [.k hb127, .call (fw_Tape_named_ok hp129)] ?_
          exact AConf.joinN (i := (p128.2, [], p128.1)) h
        · refine AConf.go sys 0 116 [.k hb127] ?_
          exact AConf.joinN (i := (p122.2, [], [])) h
    · unfold Fw_Tape_Trigger.j2 at h
      obtain ⟨p33, hp34, h⟩ := bind_some h
      refine AConf.go sys 8236 104 [.call (fw_place_ok hp34)] ?_
      refine AConf.join (ι := GTape × (List GExpr)) (bodyOf Tryz.f13) [1, 1, 1, 1, 1, 1] (fun q40 => Fw_Tape_Trigger.j3 k a1 p1 p3 p5 p7 p9 q23 q32 p33 q40 = some r) (fun (q40 : GTape × (List GExpr)) => ([(0, some (.ptr 0 0)), (6, some (.ptr 100 0)), (7, some (.ptr 101 0)), (8, some (.ptr 102 0)), (9, some (.ptr 104 0))], [(0, some (.var (GTape.pvs q40.1))), (100, some (.var [(pS []), (pS []), (pB false), (pI 0), pN, (pB false), pN, pN, pN, pN, pN])), (103, some (.arr false 9 1 (q23.2.map cS))), (105, some (.arr false 106 10 (q40.2.map GExpr.cells))), (101, some (.var [(pS a1), (pS p1.1), (pB p7.1), (pI (w64 (1 + p3.1))), (.osl 103), (pB p5.1), (pL cS q32.2.1), (pL cS q32.2.2), pN, (.osl 105), pN])), (102, some (.var (GSchema.pvs p9))), (104, some (.var (GPlace.pvs p33)))])) ?_ fun q40 h => ?_
      · obtain ⟨p117, hp118, h⟩ := bind_some h
        refine AConf.go sys 0 115 [.call (fw_Tape_Bool_ok hp118)] ?_
        rcases ite_or h with ⟨hb119, h⟩ | ⟨hb119, h⟩
        · obtain ⟨p120, hp121, h⟩ := bind_some h
          refine AConf.go sys 0 115 [.k hb119, .call (fw_Tape_Expr_ok hp121), .br false GExpr.cells_eq ([p120.1]), .kp 6 [0, 6, 7, 8, 9] [0, 100, 101, 102, 103, 104, 115], .ren 6 115 105] ?_
          exact AConf.joinN (i := (p120.2, [p120.1])) h
        · refine AConf.go sys 0 115 [.k hb119, .kp 9834 [0, 6, 7, 8, 9] [0, 100, 101, 102, 103, 104], .ownC 9834 false 101 9 105 106 10] ?_
          exact AConf.joinN (i := (p117.2, ([] : List GExpr))) h
      · unfold Fw_Tape_Trigger.j3 at h
        obtain ⟨p78, hp79, h⟩ := bind_some h
        refine AConf.go sys 0 106 [.call (fw_Tape_Next_ok hp79), .ownC 9774 false 101 10 112 111 7] ?_
        refine AConf.rounds (bodyOf Tryz.f13) [1, 0, 1, 1, 1, 1, 1, 1, 1] (fun (s103 : Int × GTape × (List GAction)) => ([(0, some (.ptr 0 0)), (6, some (.ptr 100 0)), (7, some (.ptr 101 0)), (8, some (.ptr 102 0)), (9, some (.ptr 104 0)), (10, some (pI s103.1))], [(0, some (.var (GTape.pvs s103.2.1))), (100, some (.var [(pS []), (pS []), (pB false), (pI 0), pN, (pB false), pN, pN, pN, pN, pN])), (103, some (.arr false 9 1 (q23.2.map cS))), (105, some (.arr false 106 10 (q40.2.map GExpr.cells))), (112, some (.arr false 111 7 (s103.2.2.map GAction.cells))), (101, some (.var [(pS a1), (pS p1.1), (pB p7.1), (pI (w64 (1 + p3.1))), (.osl 103), (pB p5.1), (pL cS q32.2.1), (pL cS q32.2.2), pN, (.osl 105), (.osl 112)])), (102, some (.var (GSchema.pvs p9))), (104, some (.var (GPlace.pvs p33)))])) h (fun _ h => h.symm) (fun s114 h => ?_) (fun s103 o102 h hrt => ?_)
        · obtain ⟨p115, hp116, h⟩ := bind_some h
          obtain rfl := Option.some.inj h
          refine AConf.go sys 0 115 [.ren 1 101 1, .frz 1 103, .frz 1 105, .frz 1 112, .tell 1 1, .call (fw_Tape_certify_ok hp116)] ?_
          exact AConf.fin
        · unfold Fw_Tape_Trigger.b1 at h
          rcases ite_or h with ⟨hb105, h⟩ | ⟨hb105, h⟩
          · obtain ⟨p110, hp111, h⟩ := bind_some h
            obtain ⟨l112, hv113, h⟩ := bind_some h
            refine AConf.go sys 0 113 [.k hb105, .call (fw_Tape_action_ok hp111), .b false GAction.cells ([p110.1]), .a false GAction.cells_len hv113, .kp 3 [0, 6, 7, 8, 9, 10] [0, 100, 101, 102, 103, 104, 105, 114], .ren 3 114 112] ?_
            exact AConf.stpC h
          · refine AConf.go sys 0 113 [.k hb105] ?_
            exact AConf.stpB h

-- triggerstore/triggerstoreref17.All
def Fr17_All (k : Nat) (a0 : List GTable) (a1 : List GTable) : Option (List GTable) :=
  ((app 72 ([] : List GTable) a0).bind fun l1 => ((app 72 l1 a1).bind fun l3 => (some l3)))
theorem fr17_All_ok {k : Nat} {a0 : List GTable} {a1 : List GTable} {r : List GTable} (h : Fr17_All k a0 a1 = some r) :
    ACalls Tryz.prog gl 42 [(pL GTable.cells a0), (pL GTable.cells a1)] [] (pL GTable.cells r) [] [] := by
  refine ACalls.enter sys Tryz.func42 fun w F ν => ?_
  unfold Fr17_All at h
  obtain ⟨l1, hv2, h⟩ := bind_some h
  obtain ⟨l3, hv4, h⟩ := bind_some h
  obtain rfl := Option.some.inj h
  refine AConf.go sys 0 100 [.a false GTable.cells_len hv2, .a false GTable.cells_len hv4, .frz 7143 101] ?_
  exact AConf.fin

-- triggerstore/triggerstoreref14.fits
def Fr14_fits.j0 (q2 : Bool) : Option Bool :=
  (some q2)
def Fr14_fits (k : Nat) (a0 : Int) (a1 : Int) : Option Bool :=
  (if decide (a0 = 0) = true then (Fr14_fits.j0 true) else (Fr14_fits.j0 (decide (a0 = a1))))
theorem fr14_fits_ok {k : Nat} {a0 : Int} {a1 : Int} {r : Bool} (h : Fr14_fits k a0 a1 = some r) :
    ACalls Tryz.prog gl 89 [(pI a0), (pI a1)] [] (pB r) [] [] := by
  refine ACalls.enter sys Tryz.func89 fun w F ν => ?_
  unfold Fr14_fits at h
  refine AConf.go sys 8001 100 [] ?_
  refine AConf.join (ι := Bool) (bodyOf Tryz.f89) [1] (fun q2 => Fr14_fits.j0 q2 = some r) (fun (q2 : Bool) => ([(4, some (pB q2))], [])) ?_ fun q2 h => ?_
  · rcases ite_or h with ⟨hb3, h⟩ | ⟨hb3, h⟩
    · refine AConf.go sys 0 100 [.kk 3 hb3] ?_
      exact AConf.joinN (i := true) h
    · refine AConf.go sys 0 100 [.kk 3 hb3] ?_
      exact AConf.joinN (i := (decide (a0 = a1))) h
  · unfold Fr14_fits.j0 at h
    obtain rfl := Option.some.inj h
    refine AConf.go sys 0 100 [] ?_
    exact AConf.fin

-- triggerstore/triggerstoreref14.result
def Fr14_result.b2 (k : Nat) (q31 : Int × Int) (x58 : Int) (i57 : Nat) (s56 : Unit) : Option (Go.Ab.Step (Int × Int) Unit) :=
  ((Fr14_fits k x58 q31.1).bind fun p60 => (if p60 = true then (some (.cont ())) else (some (.ret (0, 5)))))
def Fr14_result.j2 (k : Nat) (a1 : List Int) (q31 : Int × Int) : Option (Int × Int) :=
  ((loopL (Fr14_result.b2 k q31) a1 0 ()).bind fun out => Out.el out (fun r0 => some r0) fun _ => (some (q31.2, 0)))
def Fr14_result.b3 (x86 : Int) (i85 : Nat) (s84 : Int) : Option (Go.Ab.Step (Int × Int) Int) :=
  (if decide (x86 = 0) = true then (some (.cont s84)) else (some (.cont x86)))
def Fr14_result.j4 (k : Nat) (a1 : List Int) (q71 : Bool) : Option (Int × Int) :=
  (if q71 = true then (Fr14_result.j2 k a1 (1, 1)) else ((loopL (Fr14_result.b3) a1 0 (-1)).bind fun out => Out.el out (fun r0 => some r0) fun s89 => (Fr14_result.j2 k a1 (s89, 2))))
def Fr14_result.j3 (k : Nat) (a0 : GExpr) (a1 : List Int) (q67 : Bool) : Option (Int × Int) :=
  (if q67 = true then (Fr14_result.j2 k a1 (2, 2)) else (if decide (a0.Kind = 4) = true then (Fr14_result.j4 k a1 true) else (if decide (a0.Kind = 5) = true then (Fr14_result.j4 k a1 (decide (9 ≤ a0.Op))) else (Fr14_result.j4 k a1 false))))
def Fr14_result (k : Nat) (a0 : GExpr) (a1 : List Int) : Option (Int × Int) :=
  (if decide (a0.Kind = 6) = true then (some (2, 0)) else (if decide (a0.Kind = 3) = true then (Fr14_result.j3 k a0 a1 true) else (if decide (a0.Kind = 5) = true then (Fr14_result.j3 k a0 a1 (decide (a0.Op ≤ 2))) else (Fr14_result.j3 k a0 a1 false))))
theorem fr14_result_ok {k : Nat} {a0 : GExpr} {a1 : List Int} {r : Int × Int} (h : Fr14_result k a0 a1 = some r) :
    ACalls Tryz.prog gl 119 [(.agg (GExpr.pvs a0)), (pL cI a1)] [] (.tup [(pI r.1), (pI r.2)]) [] [] := by
  refine ACalls.enter sys Tryz.func119 fun w F ν => ?_
  unfold Fr14_result at h
  refine AConf.go sys 7143 100 [] ?_
  refine AConf.join (ι := Int × Int) (bodyOf Tryz.f119) [1, 1] (fun q31 => Fr14_result.j2 k a1 q31 = some r) (fun (q31 : Int × Int) => ([(1, some (pL cI a1)), (4, some (pI 0)), (5, some (pI 0)), (6, some (pI q31.1)), (7, some (pI q31.2))], [])) ?_ fun q31 h => ?_
  · rcases ite_or h with ⟨hb64, h⟩ | ⟨hb64, h⟩
    · obtain rfl := Option.some.inj h
      refine AConf.go sys 0 101 [.k hb64] ?_
      refine AConf.joinR ?_
      exact AConf.fin
    · refine AConf.go sys 8681 101 [.k hb64] ?_
      refine AConf.join (ι := Bool) (bodyOf Tryz.f119) [5, 1, 3, 2, 1, 1] (fun q67 => Fr14_result.j3 k a0 a1 q67 = some r) (fun (q67 : Bool) => ([(1, some (pL cI a1)), (2, some (.ptr 100 0)), (4, some (pI 0)), (5, some (pI 0)), (6, some (pI (-1))), (7, some (pI 2)), (26, some (pB q67))], [(100, some (.var (GExpr.pvs a0)))])) ?_ fun q67 h => ?_
      · rcases ite_or h with ⟨hb92, h⟩ | ⟨hb92, h⟩
        · refine AConf.go sys 0 101 [.kk 5 hb92] ?_
          exact AConf.joinN (i := true) h
        · refine AConf.go sys 0 101 [.kk 3 hb92] ?_
          rcases ite_or h with ⟨hb93, h⟩ | ⟨hb93, h⟩
          · refine AConf.go sys 0 101 [.kk 2 hb93, .k hb92, .k hb93, .k hb92] ?_
            exact AConf.joinN (i := (decide (a0.Op ≤ 2))) h
          · refine AConf.go sys 0 101 [.kk 2 hb93, .k hb92, .k hb93, .k hb92] ?_
            exact AConf.joinN (i := false) h
      · unfold Fr14_result.j3 at h
        rcases ite_or h with ⟨hb68, h⟩ | ⟨hb68, h⟩
        · refine AConf.go sys 0 101 [.k hb68] ?_
          exact AConf.joinN (i := (2, 2)) h
        · refine AConf.go sys 4542 101 [.k hb68] ?_
          refine AConf.join (ι := Bool) (bodyOf Tryz.f119) [5, 1, 5, 1, 3, 2, 1, 1] (fun q71 => Fr14_result.j4 k a1 q71 = some r) (fun (q71 : Bool) => ([(1, some (pL cI a1)), (4, some (pI 0)), (5, some (pI 0)), (6, some (pI (-1))), (7, some (pI 2)), (40, some (pB q71))], [])) ?_ fun q71 h => ?_
          · rcases ite_or h with ⟨hb90, h⟩ | ⟨hb90, h⟩
            · refine AConf.go sys 0 101 [.kk 5 hb90] ?_
              exact AConf.joinN (i := true) h
            · refine AConf.go sys 0 101 [.kk 3 hb90] ?_
              rcases ite_or h with ⟨hb91, h⟩ | ⟨hb91, h⟩
              · refine AConf.go sys 0 101 [.kk 2 hb91, .k hb90, .k hb91, .k hb90] ?_
                exact AConf.joinN (i := (decide (9 ≤ a0.Op))) h
              · refine AConf.go sys 0 101 [.kk 2 hb91, .k hb90, .k hb91, .k hb90] ?_
                exact AConf.joinN (i := false) h
          · unfold Fr14_result.j4 at h
            rcases ite_or h with ⟨hb72, h⟩ | ⟨hb72, h⟩
            · refine AConf.go sys 0 101 [.k hb72] ?_
              exact AConf.joinN (i := (1, 1)) h
            · refine AConf.go sys 0 101 [.k hb72, .l cI a1] ?_
              refine AConf.range (bodyOf Tryz.f119) [1, 5, 1, 5, 1, 5, 1, 3, 2, 1, 1] (fun (s84 : Int) => ([(1, some (pL cI a1)), (4, some (pI 0)), (5, some (pI 0)), (6, some (pI s84)), (7, some (pI 2)), (12, some (pL cI a1)), (13, some (pI (a1.length : Int)))], [])) (bR 1 cI) h (fun _ h => h.symm) (fun s89 h => ?_) (fun i85 x86 s84 o83 hx87 h hrt => ?_)
              · refine AConf.go sys 0 101 [] ?_
                exact AConf.joinN (i := (s89, 2)) h
              · unfold Fr14_result.b3 at h
                refine AConf.go sys 0 101 [.e cI hx87] ?_
                rcases ite_or h with ⟨hb88, h⟩ | ⟨hb88, h⟩
                · refine AConf.go sys 0 101 [.k (notT hb88)] ?_
                  exact AConf.rngC h
                · refine AConf.go sys 0 101 [.k (notF hb88)] ?_
                  exact AConf.rngC h
  · unfold Fr14_result.j2 at h
    refine AConf.go sys 0 101 [.l cI a1] ?_
    refine AConf.range (bodyOf Tryz.f119) [1, 0, 1, 1, 1] (fun (_s : Unit) => ([(4, some (pI 0)), (5, some (pI 0)), (6, some (pI q31.1)), (7, some (pI q31.2)), (54, some (pL cI a1)), (55, some (pI (a1.length : Int)))], [])) (bR 1 cI) h (fun _ h => h.symm) (fun _ h => ?_) (fun i57 x58 _ o55 hx59 h hrt => ?_)
    · obtain rfl := Option.some.inj h
      refine AConf.go sys 0 101 [] ?_
      exact AConf.fin
    · unfold Fr14_result.b2 at h
      obtain ⟨p60, hp61, h⟩ := bind_some h
      refine AConf.go sys 0 101 [.e cI hx59, .call (fr14_fits_ok hp61)] ?_
      rcases ite_or h with ⟨hb62, h⟩ | ⟨hb62, h⟩
      · refine AConf.go sys 0 101 [.k (notT hb62)] ?_
        exact AConf.rngC h
      · obtain rfl := Option.some.inj h
        obtain rfl := hrt _ rfl
        refine AConf.go sys 0 101 [.k (notF hb62)] ?_
        refine AConf.rngR ?_
        exact AConf.fin

-- triggerstore/triggerstoreref11.Shape
def Fr11_Shape.j8 (q37 : Bool) : Option Bool :=
  (some q37)
def Fr11_Shape.j9 (q46 : Bool) : Option Bool :=
  (some q46)
def Fr11_Shape.j6 (a0 : GExpr) (q30 : Int × Int) : Option Bool :=
  (if decide (0 ≤ q30.1) = true then (if decide ((a0.Args.length : Int) = q30.1) = true then (Fr11_Shape.j8 (decide ((a0.Sub.length : Int) = 0))) else (Fr11_Shape.j8 false)) else (if decide ((a0.Args.length : Int) = 0) = true then (if decide ((a0.Sub.length : Int) = 1) = true then ((idx a0.Sub 0).bind fun x49 => (if decide ((x49.Items.length : Int) = q30.2) = true then ((idx a0.Sub 0).bind fun x52 => (Fr11_Shape.j9 (decide ((x52.Where.length : Int) ≤ 1)))) else (Fr11_Shape.j9 false))) else (Fr11_Shape.j9 false)) else (Fr11_Shape.j9 false)))
def Fr11_Shape.j11 (q58 : Bool) : Option Bool :=
  (some q58)
def Fr11_Shape.j13 (a0 : GExpr) (q66 : Bool) : Option Bool :=
  (if q66 = true then (some false) else (Fr11_Shape.j6 a0 (2, 0)))
def Fr11_Shape.j15 (a0 : GExpr) (q75 : Bool) : Option Bool :=
  (if q75 = true then (Fr11_Shape.j6 a0 ((-1), 1)) else (some false))
def Fr11_Shape.j14 (a0 : GExpr) (q71 : Bool) : Option Bool :=
  (if q71 = true then (Fr11_Shape.j6 a0 ((-1), 0)) else (if decide (a0.Kind = 10) = true then (Fr11_Shape.j15 a0 (decide (a0.Kind = 10))) else (if decide (a0.Kind = 11) = true then (Fr11_Shape.j15 a0 (decide (a0.Kind = 11))) else (Fr11_Shape.j15 a0 (decide (a0.Kind = 12))))))
def Fr11_Shape.j12 (a0 : GExpr) (q62 : Bool) : Option Bool :=
  (if q62 = true then (Fr11_Shape.j6 a0 (1, 0)) else (if decide (a0.Kind = 5) = true then (if decide (a0.Op < 1) = true then (Fr11_Shape.j13 a0 true) else (Fr11_Shape.j13 a0 (decide (13 < a0.Op)))) else (if decide (a0.Kind = 7) = true then (Fr11_Shape.j6 a0 (3, 0)) else (if decide (a0.Kind = 8) = true then (Fr11_Shape.j14 a0 (decide (a0.Kind = 8))) else (Fr11_Shape.j14 a0 (decide (a0.Kind = 9)))))))
def Fr11_Shape.j10 (a0 : GExpr) (q55 : Bool) : Option Bool :=
  (if q55 = true then (if decide ((a0.Args.length : Int) = 0) = true then (Fr11_Shape.j11 (decide ((a0.Sub.length : Int) = 0))) else (Fr11_Shape.j11 false)) else (if decide (a0.Kind = 3) = true then (Fr11_Shape.j12 a0 (decide (a0.Kind = 3))) else (if decide (a0.Kind = 4) = true then (Fr11_Shape.j12 a0 (decide (a0.Kind = 4))) else (Fr11_Shape.j12 a0 (decide (a0.Kind = 6))))))
def Fr11_Shape (k : Nat) (a0 : GExpr) : Option Bool :=
  (if decide (a0.Kind = 1) = true then (Fr11_Shape.j10 a0 (decide (a0.Kind = 1))) else (Fr11_Shape.j10 a0 (decide (a0.Kind = 2))))
theorem fr11_Shape_ok {k : Nat} {a0 : GExpr} {r : Bool} (h : Fr11_Shape k a0 = some r) :
    ACalls Tryz.prog gl 116 [(.agg (GExpr.pvs a0))] [] (pB r) [] [] := by
  refine ACalls.enter sys Tryz.func116 fun w F ν => ?_
  unfold Fr11_Shape at h
  refine AConf.go sys 7143 100 [] ?_
  refine AConf.join (ι := Int × Int) (bodyOf Tryz.f116) [1, 1] (fun q30 => Fr11_Shape.j6 a0 q30 = some r) (fun (q30 : Int × Int) => ([(1, some (.ptr 100 0)), (2, some (pB false)), (3, some (pI q30.1)), (4, some (pI q30.2))], [(100, some (.var (GExpr.pvs a0)))])) ?_ fun q30 h => ?_
  · refine AConf.go sys 3934 101 [] ?_
    refine AConf.join (ι := Bool) (bodyOf Tryz.f116) [3, 1, 2, 1, 1] (fun q55 => Fr11_Shape.j10 a0 q55 = some r) (fun (q55 : Bool) => ([(1, some (.ptr 100 0)), (2, some (pB false)), (3, some (pI (-1))), (4, some (pI 0)), (6, some (pI a0.Kind)), (7, some (pB q55))], [(100, some (.var (GExpr.pvs a0)))])) ?_ fun q55 h => ?_
    · rcases ite_or h with ⟨hb82, h⟩ | ⟨hb82, h⟩
      · refine AConf.go sys 0 101 [.k hb82] ?_
        exact AConf.joinN (i := (decide (a0.Kind = 1))) h
      · refine AConf.go sys 0 101 [.k hb82] ?_
        exact AConf.joinN (i := (decide (a0.Kind = 2))) h
    · unfold Fr11_Shape.j10 at h
      rcases ite_or h with ⟨hb56, h⟩ | ⟨hb56, h⟩
      · refine AConf.go sys 1317 101 [.k hb56] ?_
        refine AConf.join (ι := Bool) (bodyOf Tryz.f116) [4, 1, 3, 1, 2, 1, 1] (fun q58 => Fr11_Shape.j11 q58 = some r) (fun (q58 : Bool) => ([(1, some (.ptr 100 0)), (2, some (pB q58)), (3, some (pI (-1))), (4, some (pI 0))], [(100, some (.var (GExpr.pvs a0)))])) ?_ fun q58 h => ?_
        · refine AConf.go sys 0 101 [.l GExpr.cells a0.Args] ?_
          rcases ite_or h with ⟨hb59, h⟩ | ⟨hb59, h⟩
          · refine AConf.go sys 0 101 [.kk 2 hb59, .l GQuery.cells a0.Sub, .kk 1 hb59] ?_
            exact AConf.joinN (i := (decide ((a0.Sub.length : Int) = 0))) h
          · refine AConf.go sys 0 101 [.kk 4 hb59] ?_
            exact AConf.joinN (i := false) h
        · unfold Fr11_Shape.j11 at h
          obtain rfl := Option.some.inj h
          refine AConf.go sys 0 101 [] ?_
          refine AConf.joinR ?_
          exact AConf.fin
      · refine AConf.go sys 1318 101 [.k hb56] ?_
        refine AConf.join (ι := Bool) (bodyOf Tryz.f116) [5, 1, 3, 1, 2, 1, 1] (fun q62 => Fr11_Shape.j12 a0 q62 = some r) (fun (q62 : Bool) => ([(1, some (.ptr 100 0)), (2, some (pB false)), (3, some (pI (-1))), (4, some (pI 0)), (6, some (pI a0.Kind)), (20, some (pB q62))], [(100, some (.var (GExpr.pvs a0)))])) ?_ fun q62 h => ?_
        · rcases ite_or h with ⟨hb80, h⟩ | ⟨hb80, h⟩
          · refine AConf.go sys 0 101 [.k hb80] ?_
            exact AConf.joinN (i := (decide (a0.Kind = 3))) h
          · refine AConf.go sys 0 101 [.k hb80] ?_
            rcases ite_or h with ⟨hb81, h⟩ | ⟨hb81, h⟩
            · refine AConf.go sys 0 101 [.k hb81] ?_
              exact AConf.joinN (i := (decide (a0.Kind = 4))) h
            · refine AConf.go sys 0 101 [.k hb81] ?_
              exact AConf.joinN (i := (decide (a0.Kind = 6))) h
        · unfold Fr11_Shape.j12 at h
          rcases ite_or h with ⟨hb63, h⟩ | ⟨hb63, h⟩
          · refine AConf.go sys 0 101 [.k hb63] ?_
            exact AConf.joinN (i := (1, 0)) h
          · refine AConf.go sys 0 101 [.k hb63] ?_
            rcases ite_or h with ⟨hb64, h⟩ | ⟨hb64, h⟩
            · refine AConf.go sys 4374 101 [.k hb64] ?_
              refine AConf.join (ι := Bool) (bodyOf Tryz.f116) [1, 4, 1, 5, 1, 5, 1, 3, 1, 2, 1, 1] (fun q66 => Fr11_Shape.j13 a0 q66 = some r) (fun (q66 : Bool) => ([(1, some (.ptr 100 0)), (2, some (pB false)), (3, some (pI 2)), (4, some (pI 0)), (33, some (pB q66))], [(100, some (.var (GExpr.pvs a0)))])) ?_ fun q66 h => ?_
              · rcases ite_or h with ⟨hb68, h⟩ | ⟨hb68, h⟩
                · refine AConf.go sys 0 101 [.kk 3 hb68] ?_
                  exact AConf.joinN (i := true) h
                · refine AConf.go sys 0 101 [.kk 3 hb68] ?_
                  exact AConf.joinN (i := (decide (13 < a0.Op))) h
              · unfold Fr11_Shape.j13 at h
                rcases ite_or h with ⟨hb67, h⟩ | ⟨hb67, h⟩
                · obtain rfl := Option.some.inj h
                  refine AConf.go sys 0 101 [.k hb67] ?_
                  refine AConf.joinR ?_
                  exact AConf.fin
                · refine AConf.go sys 0 101 [.k hb67] ?_
                  exact AConf.joinN (i := (2, 0)) h
            · refine AConf.go sys 0 101 [.k hb64] ?_
              rcases ite_or h with ⟨hb69, h⟩ | ⟨hb69, h⟩
              · refine AConf.go sys 0 101 [.k hb69] ?_
                exact AConf.joinN (i := (3, 0)) h
              · refine AConf.go sys 1753 101 [.k hb69] ?_
                refine AConf.join (ι := Bool) (bodyOf Tryz.f116) [5, 1, 5, 1, 5, 1, 5, 1, 3, 1, 2, 1, 1] (fun q71 => Fr11_Shape.j14 a0 q71 = some r) (fun (q71 : Bool) => ([(1, some (.ptr 100 0)), (2, some (pB false)), (3, some (pI (-1))), (4, some (pI 0)), (6, some (pI a0.Kind)), (36, some (pB q71))], [(100, some (.var (GExpr.pvs a0)))])) ?_ fun q71 h => ?_
                · rcases ite_or h with ⟨hb79, h⟩ | ⟨hb79, h⟩
                  · refine AConf.go sys 0 101 [.k hb79] ?_
                    exact AConf.joinN (i := (decide (a0.Kind = 8))) h
                  · refine AConf.go sys 0 101 [.k hb79] ?_
                    exact AConf.joinN (i := (decide (a0.Kind = 9))) h
                · unfold Fr11_Shape.j14 at h
                  rcases ite_or h with ⟨hb72, h⟩ | ⟨hb72, h⟩
                  · refine AConf.go sys 0 101 [.k hb72] ?_
                    exact AConf.joinN (i := ((-1), 0)) h
                  · refine AConf.go sys 4152 101 [.k hb72] ?_
                    refine AConf.join (ι := Bool) (bodyOf Tryz.f116) [5, 1, 5, 1, 5, 1, 5, 1, 5, 1, 3, 1, 2, 1, 1] (fun q75 => Fr11_Shape.j15 a0 q75 = some r) (fun (q75 : Bool) => ([(1, some (.ptr 100 0)), (2, some (pB false)), (3, some (pI (-1))), (4, some (pI 0)), (39, some (pB q75))], [(100, some (.var (GExpr.pvs a0)))])) ?_ fun q75 h => ?_
                    · rcases ite_or h with ⟨hb77, h⟩ | ⟨hb77, h⟩
                      · refine AConf.go sys 0 101 [.k hb77] ?_
                        exact AConf.joinN (i := (decide (a0.Kind = 10))) h
                      · refine AConf.go sys 0 101 [.k hb77] ?_
                        rcases ite_or h with ⟨hb78, h⟩ | ⟨hb78, h⟩
                        · refine AConf.go sys 0 101 [.k hb78] ?_
                          exact AConf.joinN (i := (decide (a0.Kind = 11))) h
                        · refine AConf.go sys 0 101 [.k hb78] ?_
                          exact AConf.joinN (i := (decide (a0.Kind = 12))) h
                    · unfold Fr11_Shape.j15 at h
                      rcases ite_or h with ⟨hb76, h⟩ | ⟨hb76, h⟩
                      · refine AConf.go sys 0 101 [.k hb76] ?_
                        exact AConf.joinN (i := ((-1), 1)) h
                      · obtain rfl := Option.some.inj h
                        refine AConf.go sys 0 101 [.k hb76] ?_
                        refine AConf.joinR ?_
                        exact AConf.fin
  · unfold Fr11_Shape.j6 at h
    rcases ite_or h with ⟨hb35, h⟩ | ⟨hb35, h⟩
    · refine AConf.go sys 8190 101 [.k hb35] ?_
      refine AConf.join (ι := Bool) (bodyOf Tryz.f116) [4, 1, 0, 1, 1, 1] (fun q37 => Fr11_Shape.j8 q37 = some r) (fun (q37 : Bool) => ([(1, some (.ptr 100 0)), (2, some (pB q37)), (4, some (pI q30.2))], [(100, some (.var (GExpr.pvs a0)))])) ?_ fun q37 h => ?_
      · refine AConf.go sys 0 101 [.l GExpr.cells a0.Args] ?_
        rcases ite_or h with ⟨hb38, h⟩ | ⟨hb38, h⟩
        · refine AConf.go sys 0 101 [.kk 2 hb38, .l GQuery.cells a0.Sub, .kk 1 hb38] ?_
          exact AConf.joinN (i := (decide ((a0.Sub.length : Int) = 0))) h
        · refine AConf.go sys 0 101 [.kk 4 hb38] ?_
          exact AConf.joinN (i := false) h
      · unfold Fr11_Shape.j8 at h
        obtain rfl := Option.some.inj h
        refine AConf.go sys 0 101 [] ?_
        exact AConf.fin
    · refine AConf.go sys 8960 101 [.k hb35] ?_
      refine AConf.join (ι := Bool) (bodyOf Tryz.f116) [1, 1, 1, 1] (fun q46 => Fr11_Shape.j9 q46 = some r) (fun (q46 : Bool) => ([(2, some (pB q46))], [])) ?_ fun q46 h => ?_
      · refine AConf.go sys 0 101 [.l GExpr.cells a0.Args] ?_
        rcases ite_or h with ⟨hb47, h⟩ | ⟨hb47, h⟩
        · refine AConf.go sys 0 101 [.kk 2 hb47, .l GQuery.cells a0.Sub, .kk 1 hb47] ?_
          rcases ite_or h with ⟨hb48, h⟩ | ⟨hb48, h⟩
          · obtain ⟨x49, hv50, h⟩ := bind_some h
            refine AConf.go sys 0 101 [.kk 2 hb48, .xr GQuery.cells_eq hv50, .kk 2 hb48, .l GExpr.cells x49.Items, .kk 2 hb48] ?_
            rcases ite_or h with ⟨hb51, h⟩ | ⟨hb51, h⟩
            · obtain ⟨x52, hv53, h⟩ := bind_some h
              refine AConf.go sys 0 101 [.kk 2 hb51, .xr GQuery.cells_eq hv53, .kk 2 hb51, .l GExpr.cells x52.Where, .kk 1 hb51] ?_
              exact AConf.joinN (i := (decide ((x52.Where.length : Int) ≤ 1))) h
            · refine AConf.go sys 0 101 [.kk 7 hb51] ?_
              exact AConf.joinN (i := false) h
          · refine AConf.go sys 0 101 [.kk 8 hb48, .kk 7 (rfl : false = _)] ?_
            exact AConf.joinN (i := false) h
        · refine AConf.go sys 0 101 [.kk 4 hb47, .kk 16 (rfl : false = _)] ?_
          exact AConf.joinN (i := false) h
      · unfold Fr11_Shape.j9 at h
        obtain rfl := Option.some.inj h
        refine AConf.go sys 0 101 [] ?_
        exact AConf.fin

-- triggerstore/triggerstoreref14.Resolve
def Fr14_Resolve.j27 (s284 : Int) : Option (Go.Ab.Step (Int × Int × Bool) Int) :=
  (some (.cont (w64 (s284 - 1))))
def Fr14_Resolve.b12 (a2 : List UInt8) (s284 : Int) (x334 : GColumn) (i333 : Nat) (s332 : Unit) : Option (Go.Ab.Step (Int × Int × Bool) Unit) :=
  (if decide (x334.Name = a2) = true then (some (.ret (s284, (i333 : Int), true))) else (some (.cont ())))
def Fr14_Resolve.j29 (a2 : List UInt8) (s284 : Int) (x314 : GFrame) (q324 : Bool) : Option (Go.Ab.Step (Int × Int × Bool) Int) :=
  (if q324 = true then (Fr14_Resolve.j27 s284) else ((loopL (Fr14_Resolve.b12 a2 s284) x314.Columns 0 ()).bind fun out => Out.el out (fun r0 => some (.ret r0)) fun _ => (Fr14_Resolve.j27 s284)))
def Fr14_Resolve.b13 (a0 : List GFrame) (a1 : List UInt8) (a2 : List UInt8) (s284 : Int) : Option (Go.Ab.Step (Int × Int × Bool) Int) :=
  (if decide (0 ≤ s284) = true then ((idx a0 s284).bind fun x314 => (if decide (a1 = []) = true then (if x314.Strict = true then (Fr14_Resolve.j29 a2 s284 x314 true) else (Fr14_Resolve.j29 a2 s284 x314 false)) else (Fr14_Resolve.j29 a2 s284 x314 (!decide (x314.Name = a1))))) else (some (.brk s284)))
def Fr14_Resolve (k : Nat) (a0 : List GFrame) (a1 : List UInt8) (a2 : List UInt8) : Option (Int × Int × Bool) :=
  ((loopN (Fr14_Resolve.b13 a0 a1 a2) k (w64 ((a0.length : Int) - 1))).bind fun out => Out.el out (fun r0 => some r0) fun s340 => (some (0, 0, false)))
theorem fr14_Resolve_ok {k : Nat} {a0 : List GFrame} {a1 : List UInt8} {a2 : List UInt8} {r : Int × Int × Bool} (h : Fr14_Resolve k a0 a1 a2 = some r) :
    ACalls Tryz.prog gl 117 [(pL GFrame.cells a0), (pS a1), (pS a2)] [] (.tup [(pI r.1), (pI r.2.1), (pB r.2.2)]) [] [] := by
  refine ACalls.enter sys Tryz.func117 fun w F ν => ?_
  unfold Fr14_Resolve at h
  refine AConf.go sys 0 100 [.l GFrame.cells a0] ?_
  refine AConf.rounds (bodyOf Tryz.f117) [1, 0, 1] (fun (s284 : Int) => ([(0, some (pL GFrame.cells a0)), (1, some (pS a1)), (2, some (pS a2)), (6, some (pI 0)), (7, some (pI 0)), (8, some (pB false)), (9, some (pI s284))], [])) h (fun _ h => h.symm) (fun s340 h => ?_) (fun s284 o283 h hrt => ?_)
  · obtain rfl := Option.some.inj h
    refine AConf.go sys 0 118 [] ?_
    exact AConf.fin
  · unfold Fr14_Resolve.b13 at h
    rcases ite_or h with ⟨hb286, h⟩ | ⟨hb286, h⟩
    · refine AConf.go sys 3589 112 [.k hb286] ?_
      refine AConf.join (ι := Unit) (bodyOf Tryz.f117) [1, 8, 1, 0, 1] (fun _ => Fr14_Resolve.j27 s284 = some o283) (fun (_q : Unit) => ([(0, some (pL GFrame.cells a0)), (1, some (pS a1)), (2, some (pS a2)), (6, some (pI 0)), (7, some (pI 0)), (8, some (pB false)), (9, some (pI s284))], [])) ?_ fun _ h => ?_
      · obtain ⟨x314, hv315, h⟩ := bind_some h
        refine AConf.go sys 2437 115 [.x GFrame.cells hv315] ?_
        refine AConf.join (ι := Bool) (bodyOf Tryz.f117) [0, 1, 3, 2, 1, 8, 1, 0, 1] (fun q324 => Fr14_Resolve.j29 a2 s284 x314 q324 = some o283) (fun (q324 : Bool) => ([(0, some (pL GFrame.cells a0)), (1, some (pS a1)), (2, some (pS a2)), (6, some (pI 0)), (7, some (pI 0)), (8, some (pB false)), (9, some (pI s284)), (10, some (.ptr 115 0)), (39, some (pB q324))], [(115, some (.var (GFrame.pvs x314)))])) ?_ fun q324 h => ?_
        · rcases ite_or h with ⟨hb338, h⟩ | ⟨hb338, h⟩
          · refine AConf.go sys 0 118 [.kk 2 hb338] ?_
            rcases ite_or h with ⟨hb339, h⟩ | ⟨hb339, h⟩
            · refine AConf.go sys 0 118 [.kk 4 hb339] ?_
              exact AConf.joinN (i := true) h
            · refine AConf.go sys 0 118 [.kk 2 hb339, .kk 3 (notT hb338), .k hb339, .k (notT hb338), .k hb339] ?_
              exact AConf.joinN (i := false) h
          · refine AConf.go sys 0 118 [.kk 2 hb338, .kk 2 (rfl : false = _), .kk 3 (notF hb338), .N, .k (notF hb338), .N] ?_
            exact AConf.joinN (i := (!decide (x314.Name = a1))) h
        · unfold Fr14_Resolve.j29 at h
          rcases ite_or h with ⟨hb325, h⟩ | ⟨hb325, h⟩
          · refine AConf.go sys 0 116 [.k hb325] ?_
            exact AConf.joinN (i := ()) h
          · refine AConf.go sys 0 116 [.k hb325, .l GColumn.cells x314.Columns] ?_
            refine AConf.range (bodyOf Tryz.f117) [1, 1, 1, 3, 2, 1, 8, 1, 0, 1] (fun (_s : Unit) => ([(0, some (pL GFrame.cells a0)), (1, some (pS a1)), (2, some (pS a2)), (6, some (pI 0)), (7, some (pI 0)), (8, some (pB false)), (9, some (pI s284)), (41, some (pL GColumn.cells x314.Columns)), (42, some (pI (x314.Columns.length : Int)))], [])) (bR 41 GColumn.cells) h hrt (fun _ h => ?_) (fun i333 x334 _ o331 hx335 h hrt => ?_)
            · refine AConf.go sys 0 118 [] ?_
              exact AConf.joinN (i := ()) h
            · unfold Fr14_Resolve.b12 at h
              refine AConf.go sys 0 117 [.e GColumn.cells hx335] ?_
              rcases ite_or h with ⟨hb336, h⟩ | ⟨hb336, h⟩
              · obtain rfl := Option.some.inj h
                obtain rfl := hrt _ rfl
                refine AConf.go sys 0 118 [.k hb336] ?_
                refine AConf.rngR ?_
                refine AConf.joinR ?_
                refine AConf.stpR ?_
                exact AConf.fin
              · refine AConf.go sys 0 118 [.k hb336] ?_
                exact AConf.rngC h
      · unfold Fr14_Resolve.j27 at h
        refine AConf.go sys 0 115 [] ?_
        exact AConf.stpC h
    · refine AConf.go sys 0 112 [.k hb286] ?_
      exact AConf.stpB h

-- triggerstore/triggerstoreref14.Inside
def Fr14_Inside (k : Nat) (a0 : List GFrame) (a1 : GSchema) (a2 : List GValue) : Option (List GFrame) :=
  ((app 72 ([] : List GFrame) a0).bind fun l1 => ((app 72 l1 ([(GFrame.mk a1.Name false a1.Columns a2)])).bind fun l3 => (some l3)))
theorem fr14_Inside_ok {k : Nat} {a0 : List GFrame} {a1 : GSchema} {a2 : List GValue} {r : List GFrame} (h : Fr14_Inside k a0 a1 a2 = some r) :
    ACalls Tryz.prog gl 122 [(pL GFrame.cells a0), (.agg (GSchema.pvs a1)), (pL GValue.cells a2)] [] (pL GFrame.cells r) [] [] := by
  refine ACalls.enter sys Tryz.func122 fun w F ν => ?_
  unfold Fr14_Inside at h
  obtain ⟨l1, hv2, h⟩ := bind_some h
  obtain ⟨l3, hv4, h⟩ := bind_some h
  obtain rfl := Option.some.inj h
  refine AConf.go sys 0 100 [.a false GFrame.cells_len hv2, .b false GFrame.cells ([(GFrame.mk a1.Name false a1.Columns a2)]), .a false GFrame.cells_len hv4, .frz 1137 103] ?_
  exact AConf.fin

-- triggerstore/triggerstoreref14.Source
def Fr14_Source.b1 (a1 : List UInt8) (x27 : GTable) (i26 : Nat) (s25 : Unit) : Option (Go.Ab.Step (GSchema × Bool) Unit) :=
  (if decide (x27.Schema.Name = a1) = true then ((app 32 ([] : List GColumn) x27.Schema.Columns).bind fun l30 => (some (.ret ((GSchema.mk x27.Schema.Name l30), true)))) else (some (.cont ())))
def Fr14_Source (k : Nat) (a0 : List GTable) (a1 : List UInt8) : Option (GSchema × Bool) :=
  ((loopL (Fr14_Source.b1 a1) a0 0 ()).bind fun out => Out.el out (fun r0 => some r0) fun _ => (some ((GSchema.mk [] []), false)))
theorem fr14_Source_ok {k : Nat} {a0 : List GTable} {a1 : List UInt8} {r : GSchema × Bool} (h : Fr14_Source k a0 a1 = some r) :
    ACalls Tryz.prog gl 40 [(pL GTable.cells a0), (pS a1)] [] (.tup [(.agg (GSchema.pvs r.1)), (pB r.2)]) [] [] := by
  refine ACalls.enter sys Tryz.func40 fun w F ν => ?_
  unfold Fr14_Source at h
  refine AConf.go sys 0 100 [.l GTable.cells a0] ?_
  refine AConf.range (bodyOf Tryz.f40) [1, 0, 1] (fun (_s : Unit) => ([(1, some (pS a1)), (4, some (.ptr 100 0)), (5, some (pB false)), (9, some (pL GTable.cells a0)), (10, some (pI (a0.length : Int)))], [(100, some (.var [(pS []), pN]))])) (bR 0 GTable.cells) h (fun _ h => h.symm) (fun _ h => ?_) (fun i26 x27 _ o24 hx28 h hrt => ?_)
  · obtain rfl := Option.some.inj h
    refine AConf.go sys 0 107 [] ?_
    exact AConf.fin
  · unfold Fr14_Source.b1 at h
    refine AConf.go sys 0 104 [.e GTable.cells hx28] ?_
    rcases ite_or h with ⟨hb29, h⟩ | ⟨hb29, h⟩
    · obtain ⟨l30, hv31, h⟩ := bind_some h
      obtain rfl := Option.some.inj h
      obtain rfl := hrt _ rfl
      refine AConf.go sys 0 105 [.k hb29, .a false GColumn.cells_len hv31, .frz 4009 106] ?_
      refine AConf.rngR ?_
      exact AConf.fin
    · refine AConf.go sys 0 105 [.k hb29] ?_
      exact AConf.rngC h

-- triggerstore/triggerstoreref14.typeOfQuery
-- triggerstore/triggerstoreref14.Type
-- triggerstore/triggerstoreref14.Condition
structure Recr14_Condition where
  rr14_Condition : (List GExpr) → (List GFrame) → (List GTable) → Option Int
  rr14_Type : GExpr → (List GFrame) → (List GTable) → Option (Int × Int)
  rr14_typeOfQuery : GExpr → (List GFrame) → (List GTable) → Option (Int × Int)
structure Recr14_ConditionOK (R : Recr14_Condition) : Prop where
  rr14_Condition : ∀ {a0 : List GExpr} {a1 : List GFrame} {a2 : List GTable} {r : Int}, R.rr14_Condition a0 a1 a2 = some r → ACalls Tryz.prog gl 44 [(pL GExpr.cells a0), (pL GFrame.cells a1), (pL GTable.cells a2)] [] (pI r) [] []
  rr14_Type : ∀ {a0 : GExpr} {a1 : List GFrame} {a2 : List GTable} {r : Int × Int}, R.rr14_Type a0 a1 a2 = some r → ACalls Tryz.prog gl 88 [(.agg (GExpr.pvs a0)), (pL GFrame.cells a1), (pL GTable.cells a2)] [] (.tup [(pI r.1), (pI r.2)]) [] []
  rr14_typeOfQuery : ∀ {a0 : GExpr} {a1 : List GFrame} {a2 : List GTable} {r : Int × Int}, R.rr14_typeOfQuery a0 a1 a2 = some r → ACalls Tryz.prog gl 118 [(.agg (GExpr.pvs a0)), (pL GFrame.cells a1), (pL GTable.cells a2)] [] (.tup [(pI r.1), (pI r.2)]) [] []
def Fr14_Conditionb (k : Nat) (R : Recr14_Condition) (a0 : List GExpr) (a1 : List GFrame) (a2 : List GTable) : Option Int :=
  (if decide ((a0.length : Int) = 0) = true then (some 0) else ((idx a0 0).bind fun x3 => ((R.rr14_Type x3 a1 a2).bind fun p5 => (if decide (p5.2 = 0) = true then ((Fr14_fits k p5.1 2).bind fun p12 => (if p12 = true then (some 0) else (some 5))) else (some p5.2)))))
theorem fr14_Condition_okb {k : Nat} {R : Recr14_Condition} (hR : Recr14_ConditionOK R) {a0 : List GExpr} {a1 : List GFrame} {a2 : List GTable} {r : Int} (h : Fr14_Conditionb k R a0 a1 a2 = some r) :
    ACalls Tryz.prog gl 44 [(pL GExpr.cells a0), (pL GFrame.cells a1), (pL GTable.cells a2)] [] (pI r) [] [] := by
  refine ACalls.enter sys Tryz.func44 fun w F ν => ?_
  unfold Fr14_Conditionb at h
  refine AConf.go sys 0 100 [.l GExpr.cells a0] ?_
  rcases ite_or h with ⟨hb2, h⟩ | ⟨hb2, h⟩
  · obtain rfl := Option.some.inj h
    refine AConf.go sys 0 100 [.k hb2] ?_
    exact AConf.fin
  · obtain ⟨x3, hv4, h⟩ := bind_some h
    obtain ⟨p5, hp6, h⟩ := bind_some h
    refine AConf.go sys 0 100 [.k hb2, .xr GExpr.cells_eq hv4, .call (hR.rr14_Type hp6)] ?_
    rcases ite_or h with ⟨hb8, h⟩ | ⟨hb8, h⟩
    · obtain ⟨p12, hp13, h⟩ := bind_some h
      refine AConf.go sys 0 100 [.k (notT hb8), .call (fr14_fits_ok hp13)] ?_
      rcases ite_or h with ⟨hb14, h⟩ | ⟨hb14, h⟩
      · obtain rfl := Option.some.inj h
        refine AConf.go sys 0 100 [.k (notT hb14)] ?_
        exact AConf.fin
      · obtain rfl := Option.some.inj h
        refine AConf.go sys 0 100 [.k (notF hb14)] ?_
        exact AConf.fin
    · obtain rfl := Option.some.inj h
      refine AConf.go sys 0 100 [.k (notF hb8)] ?_
      exact AConf.fin
def Fr14_Type.b1 (R : Recr14_Condition) (a1 : List GFrame) (a2 : List GTable) (x88 : GExpr) (i87 : Nat) (s86 : List Int) : Option (Go.Ab.Step (Int × Int) (List Int)) :=
  ((R.rr14_Type x88 a1 a2).bind fun p90 => (if decide (p90.2 = 0) = true then ((app 8 s86 ([p90.1])).bind fun l94 => (some (.cont l94))) else (some (.ret (0, p90.2)))))
def Fr14_Typeb (k : Nat) (R : Recr14_Condition) (a0 : GExpr) (a1 : List GFrame) (a2 : List GTable) : Option (Int × Int) :=
  ((Fr11_Shape k a0).bind fun p4 => (if p4 = true then (if decide (a0.Kind = 1) = true then (some (a0.Value.Kind, 0)) else (if decide (a0.Kind = 2) = true then ((Fr14_Resolve k a1 a0.Table a0.Name).bind fun p19 => (if p19.2.2 = true then ((idx a1 p19.1).bind fun x23 => ((idx x23.Columns p19.2.1).bind fun x25 => (some (x25.Typ, 0)))) else (some (0, 3)))) else (if decide (0 < (a0.Sub.length : Int)) = true then ((R.rr14_typeOfQuery a0 a1 a2).bind fun p31 => (some (p31.1, p31.2))) else ((loopL (Fr14_Type.b1 R a1 a2) a0.Args 0 ([] : List Int)).bind fun out => Out.el out (fun r0 => some r0) fun s96 => ((Fr14_result k a0 s96).bind fun p97 => (some (p97.1, p97.2))))))) else (some (0, 17))))
theorem fr14_Type_okb {k : Nat} {R : Recr14_Condition} (hR : Recr14_ConditionOK R) {a0 : GExpr} {a1 : List GFrame} {a2 : List GTable} {r : Int × Int} (h : Fr14_Typeb k R a0 a1 a2 = some r) :
    ACalls Tryz.prog gl 88 [(.agg (GExpr.pvs a0)), (pL GFrame.cells a1), (pL GTable.cells a2)] [] (.tup [(pI r.1), (pI r.2)]) [] [] := by
  refine ACalls.enter sys Tryz.func88 fun w F ν => ?_
  unfold Fr14_Typeb at h
  obtain ⟨p4, hp5, h⟩ := bind_some h
  refine AConf.go sys 0 100 [.call (fr11_Shape_ok hp5)] ?_
  rcases ite_or h with ⟨hb6, h⟩ | ⟨hb6, h⟩
  · refine AConf.go sys 0 101 [.k (notT hb6)] ?_
    rcases ite_or h with ⟨hb17, h⟩ | ⟨hb17, h⟩
    · obtain rfl := Option.some.inj h
      refine AConf.go sys 0 101 [.k hb17] ?_
      exact AConf.fin
    · refine AConf.go sys 0 101 [.k hb17] ?_
      rcases ite_or h with ⟨hb18, h⟩ | ⟨hb18, h⟩
      · obtain ⟨p19, hp20, h⟩ := bind_some h
        refine AConf.go sys 0 101 [.k hb18, .call (fr14_Resolve_ok hp20)] ?_
        rcases ite_or h with ⟨hb22, h⟩ | ⟨hb22, h⟩
        · obtain ⟨x23, hv24, h⟩ := bind_some h
          obtain ⟨x25, hv26, h⟩ := bind_some h
          obtain rfl := Option.some.inj h
          refine AConf.go sys 0 101 [.k (notT hb22), .x GFrame.cells hv24, .x GColumn.cells hv26] ?_
          exact AConf.fin
        · obtain rfl := Option.some.inj h
          refine AConf.go sys 0 101 [.k (notF hb22)] ?_
          exact AConf.fin
      · refine AConf.go sys 0 101 [.k hb18, .l GQuery.cells a0.Sub] ?_
        rcases ite_or h with ⟨hb30, h⟩ | ⟨hb30, h⟩
        · obtain ⟨p31, hp32, h⟩ := bind_some h
          obtain rfl := Option.some.inj h
          refine AConf.go sys 0 101 [.k hb30, .call (hR.rr14_typeOfQuery hp32)] ?_
          exact AConf.fin
        · refine AConf.go sys 0 101 [.k hb30, .l GExpr.cells a0.Args, .ownR 8781 false 11 109 3 1] ?_
          refine AConf.range (bodyOf Tryz.f88) [1, 0, 1, 1, 1, 1, 1] (fun (s86 : List Int) => ([(1, some (pL GFrame.cells a1)), (2, some (pL GTable.cells a2)), (3, some (.ptr 100 0)), (6, some (pI 0)), (7, some (pI 0)), (11, some (.osl 109)), (60, some (pL GExpr.cells a0.Args)), (61, some (pI (a0.Args.length : Int)))], [(109, some (.arr false 3 1 (s86.map cI))), (100, some (.var (GExpr.pvs a0)))])) (bR 60 GExpr.cells) h (fun _ h => h.symm) (fun s96 h => ?_) (fun i87 x88 s86 o85 hx89 h hrt => ?_)
          · obtain ⟨p97, hp98, h⟩ := bind_some h
            obtain rfl := Option.some.inj h
            refine AConf.go sys 0 113 [.call (fr14_result_ok hp98)] ?_
            exact AConf.fin
          · unfold Fr14_Type.b1 at h
            obtain ⟨p90, hp91, h⟩ := bind_some h
            refine AConf.go sys 0 110 [.er GExpr.cells_eq hx89, .call (hR.rr14_Type hp91)] ?_
            rcases ite_or h with ⟨hb93, h⟩ | ⟨hb93, h⟩
            · obtain ⟨l94, hv95, h⟩ := bind_some h
              refine AConf.go sys 0 111 [.k (notT hb93), .b false cI ([p90.1]), .a false (f := cI) (sz := 1) (fun _ => rfl) hv95, .kp 5 [1, 2, 3, 6, 7, 11, 60, 61, 62] [100, 112], .ren 5 112 109] ?_
              exact AConf.rngC h
            · obtain rfl := Option.some.inj h
              obtain rfl := hrt _ rfl
              refine AConf.go sys 0 111 [.k (notF hb93)] ?_
              refine AConf.rngR ?_
              exact AConf.fin
  · obtain rfl := Option.some.inj h
    refine AConf.go sys 0 101 [.k (notF hb6)] ?_
    exact AConf.fin
def Fr14_typeOfQuery.b1 (R : Recr14_Condition) (a2 : List GTable) (p7 : List GFrame) (x54 : GExpr) (i53 : Nat) (s52 : Int) : Option (Go.Ab.Step (Int × Int) Int) :=
  ((R.rr14_Type x54 p7 a2).bind fun p56 => (if decide (p56.2 = 0) = true then (some (.cont p56.1)) else (some (.ret (0, p56.2)))))
def Fr14_typeOfQuery.j3 (s60 : Int) (q87 : Bool) : Option (Int × Int) :=
  (if q87 = true then (some (s60, 0)) else (some (1, 0)))
def Fr14_typeOfQuery.j1 (a0 : GExpr) (s60 : Int) (q78 : Bool) : Option (Int × Int) :=
  (if q78 = true then (some (0, 5)) else (if decide (a0.Kind = 8) = true then (some (2, 0)) else (if decide (a0.Kind = 11) = true then (Fr14_typeOfQuery.j3 s60 (decide (a0.Kind = 11))) else (Fr14_typeOfQuery.j3 s60 (decide (a0.Kind = 12))))))
def Fr14_typeOfQueryb (k : Nat) (R : Recr14_Condition) (a0 : GExpr) (a1 : List GFrame) (a2 : List GTable) : Option (Int × Int) :=
  ((idx a0.Sub 0).bind fun x1 => ((Fr14_Source k a2 x1.From).bind fun p3 => (if p3.2 = true then ((Fr14_Inside k a1 p3.1 []).bind fun p7 => ((loopL (Fr14_typeOfQuery.b1 R a2 p7) x1.Items 0 1).bind fun out => Out.el out (fun r0 => some r0) fun s60 => ((R.rr14_Condition x1.Where p7 a2).bind fun p64 => (if decide (p64 = 0) = true then (if decide (a0.Kind = 10) = true then ((Fr14_fits k s60 1).bind fun p91 => (Fr14_typeOfQuery.j1 a0 s60 (!p91))) else (Fr14_typeOfQuery.j1 a0 s60 false)) else (some (0, p64)))))) else (some (0, 3)))))
theorem fr14_typeOfQuery_okb {k : Nat} {R : Recr14_Condition} (hR : Recr14_ConditionOK R) {a0 : GExpr} {a1 : List GFrame} {a2 : List GTable} {r : Int × Int} (h : Fr14_typeOfQueryb k R a0 a1 a2 = some r) :
    ACalls Tryz.prog gl 118 [(.agg (GExpr.pvs a0)), (pL GFrame.cells a1), (pL GTable.cells a2)] [] (.tup [(pI r.1), (pI r.2)]) [] [] := by
  refine ACalls.enter sys Tryz.func118 fun w F ν => ?_
  unfold Fr14_typeOfQueryb at h
  obtain ⟨x1, hv2, h⟩ := bind_some h
  obtain ⟨p3, hp4, h⟩ := bind_some h
  refine AConf.go sys 0 100 [.xr GQuery.cells_eq hv2, .call (fr14_Source_ok hp4)] ?_
  rcases ite_or h with ⟨hb6, h⟩ | ⟨hb6, h⟩
  · obtain ⟨p7, hp8, h⟩ := bind_some h
    refine AConf.go sys 0 103 [.k (notT hb6), .call (fr14_Inside_ok hp8), .l GExpr.cells x1.Items] ?_
    refine AConf.range (bodyOf Tryz.f118) [1, 0, 1, 1, 1, 1, 1, 1] (fun (s52 : Int) => ([(2, some (pL GTable.cells a2)), (3, some (.ptr 100 0)), (6, some (pI 0)), (7, some (pI 0)), (8, some (.ptr 101 0)), (11, some (pL GFrame.cells p7)), (12, some (pI s52)), (35, some (pL GExpr.cells x1.Items)), (36, some (pI (x1.Items.length : Int)))], [(100, some (.var (GExpr.pvs a0))), (101, some (.var (GQuery.pvs x1)))])) (bR 35 GExpr.cells) h (fun _ h => h.symm) (fun s60 h => ?_) (fun i53 x54 s52 o51 hx55 h hrt => ?_)
    · obtain ⟨p64, hp65, h⟩ := bind_some h
      refine AConf.go sys 0 106 [.call (hR.rr14_Condition hp65)] ?_
      rcases ite_or h with ⟨hb66, h⟩ | ⟨hb66, h⟩
      · refine AConf.go sys 9780 106 [.k (notT hb66)] ?_
        refine AConf.join (ι := Bool) (bodyOf Tryz.f118) [0, 1, 1, 1, 1, 1, 1, 1, 1] (fun q78 => Fr14_typeOfQuery.j1 a0 s60 q78 = some r) (fun (q78 : Bool) => ([(3, some (.ptr 100 0)), (6, some (pI 0)), (7, some (pI 0)), (12, some (pI s60)), (68, some (pB q78))], [(100, some (.var (GExpr.pvs a0)))])) ?_ fun q78 h => ?_
        · rcases ite_or h with ⟨hb90, h⟩ | ⟨hb90, h⟩
          · obtain ⟨p91, hp92, h⟩ := bind_some h
            refine AConf.go sys 0 106 [.kk 1 hb90, .call (fr14_fits_ok hp92), .kk 1 hb90] ?_
            exact AConf.joinN (i := (!p91)) h
          · refine AConf.go sys 0 106 [.kk 3 hb90] ?_
            exact AConf.joinN (i := false) h
        · unfold Fr14_typeOfQuery.j1 at h
          rcases ite_or h with ⟨hb79, h⟩ | ⟨hb79, h⟩
          · obtain rfl := Option.some.inj h
            refine AConf.go sys 0 106 [.k hb79] ?_
            exact AConf.fin
          · refine AConf.go sys 0 106 [.k hb79] ?_
            rcases ite_or h with ⟨hb85, h⟩ | ⟨hb85, h⟩
            · obtain rfl := Option.some.inj h
              refine AConf.go sys 0 106 [.k hb85] ?_
              exact AConf.fin
            · refine AConf.go sys 3397 106 [.k hb85] ?_
              refine AConf.join (ι := Bool) (bodyOf Tryz.f118) [5, 1, 3, 1, 0, 1, 1, 1, 1, 1, 1, 1, 1, 1] (fun q87 => Fr14_typeOfQuery.j3 s60 q87 = some r) (fun (q87 : Bool) => ([(6, some (pI 0)), (7, some (pI 0)), (12, some (pI s60)), (73, some (pB q87))], [])) ?_ fun q87 h => ?_
              · rcases ite_or h with ⟨hb89, h⟩ | ⟨hb89, h⟩
                · refine AConf.go sys 0 106 [.k hb89] ?_
                  exact AConf.joinN (i := (decide (a0.Kind = 11))) h
                · refine AConf.go sys 0 106 [.k hb89] ?_
                  exact AConf.joinN (i := (decide (a0.Kind = 12))) h
              · unfold Fr14_typeOfQuery.j3 at h
                rcases ite_or h with ⟨hb88, h⟩ | ⟨hb88, h⟩
                · obtain rfl := Option.some.inj h
                  refine AConf.go sys 0 106 [.k hb88] ?_
                  exact AConf.fin
                · obtain rfl := Option.some.inj h
                  refine AConf.go sys 0 106 [.k hb88] ?_
                  exact AConf.fin
      · obtain rfl := Option.some.inj h
        refine AConf.go sys 0 106 [.k (notF hb66)] ?_
        exact AConf.fin
    · unfold Fr14_typeOfQuery.b1 at h
      obtain ⟨p56, hp57, h⟩ := bind_some h
      refine AConf.go sys 0 105 [.er GExpr.cells_eq hx55, .call (hR.rr14_Type hp57)] ?_
      rcases ite_or h with ⟨hb59, h⟩ | ⟨hb59, h⟩
      · refine AConf.go sys 0 106 [.k (notT hb59)] ?_
        exact AConf.rngC h
      · obtain rfl := Option.some.inj h
        obtain rfl := hrt _ rfl
        refine AConf.go sys 0 106 [.k (notF hb59)] ?_
        refine AConf.rngR ?_
        exact AConf.fin
  · obtain rfl := Option.some.inj h
    refine AConf.go sys 0 103 [.k (notF hb6)] ?_
    exact AConf.fin
def recr14_Condition (k : Nat) : Nat → Recr14_Condition
  | 0 => ⟨fun _ _ _ => none, fun _ _ _ => none, fun _ _ _ => none⟩
  | n + 1 => ⟨Fr14_Conditionb k (recr14_Condition k n), Fr14_Typeb k (recr14_Condition k n), Fr14_typeOfQueryb k (recr14_Condition k n)⟩
theorem recr14_Condition_ok (k : Nat) : ∀ n, Recr14_ConditionOK (recr14_Condition k n)
  | 0 => ⟨fun h => absurd (show none = some _ from h) nofun, fun h => absurd (show none = some _ from h) nofun, fun h => absurd (show none = some _ from h) nofun⟩
  | n + 1 => ⟨fun h => fr14_Condition_okb (k := k) (recr14_Condition_ok k n) h, fun h => fr14_Type_okb (k := k) (recr14_Condition_ok k n) h, fun h => fr14_typeOfQuery_okb (k := k) (recr14_Condition_ok k n) h⟩
def Fr14_Condition (k : Nat) (a0 : List GExpr) (a1 : List GFrame) (a2 : List GTable) : Option Int := Fr14_Conditionb k (recr14_Condition k k) a0 a1 a2
theorem fr14_Condition_ok {k : Nat} {a0 : List GExpr} {a1 : List GFrame} {a2 : List GTable} {r : Int} (h : Fr14_Condition k a0 a1 a2 = some r) : ACalls Tryz.prog gl 44 [(pL GExpr.cells a0), (pL GFrame.cells a1), (pL GTable.cells a2)] [] (pI r) [] [] := fr14_Condition_okb (k := k) (recr14_Condition_ok k k) h
def Fr14_Type (k : Nat) (a0 : GExpr) (a1 : List GFrame) (a2 : List GTable) : Option (Int × Int) := Fr14_Typeb k (recr14_Condition k k) a0 a1 a2
theorem fr14_Type_ok {k : Nat} {a0 : GExpr} {a1 : List GFrame} {a2 : List GTable} {r : Int × Int} (h : Fr14_Type k a0 a1 a2 = some r) : ACalls Tryz.prog gl 88 [(.agg (GExpr.pvs a0)), (pL GFrame.cells a1), (pL GTable.cells a2)] [] (.tup [(pI r.1), (pI r.2)]) [] [] := fr14_Type_okb (k := k) (recr14_Condition_ok k k) h
def Fr14_typeOfQuery (k : Nat) (a0 : GExpr) (a1 : List GFrame) (a2 : List GTable) : Option (Int × Int) := Fr14_typeOfQueryb k (recr14_Condition k k) a0 a1 a2
theorem fr14_typeOfQuery_ok {k : Nat} {a0 : GExpr} {a1 : List GFrame} {a2 : List GTable} {r : Int × Int} (h : Fr14_typeOfQuery k a0 a1 a2 = some r) : ACalls Tryz.prog gl 118 [(.agg (GExpr.pvs a0)), (pL GFrame.cells a1), (pL GTable.cells a2)] [] (.tup [(pI r.1), (pI r.2)]) [] [] := fr14_typeOfQuery_okb (k := k) (recr14_Condition_ok k k) h

-- triggerstore/triggerstoreref14.Assignable
def Fr14_Assignable (k : Nat) (a0 : Int) (a1 : Int) : Option Bool :=
  ((Fr14_fits k a1 a0).bind fun p1 => (some p1))
theorem fr14_Assignable_ok {k : Nat} {a0 : Int} {a1 : Int} {r : Bool} (h : Fr14_Assignable k a0 a1 = some r) :
    ACalls Tryz.prog gl 90 [(pI a0), (pI a1)] [] (pB r) [] [] := by
  refine ACalls.enter sys Tryz.func90 fun w F ν => ?_
  unfold Fr14_Assignable at h
  obtain ⟨p1, hp2, h⟩ := bind_some h
  obtain rfl := Option.some.inj h
  refine AConf.go sys 0 100 [.call (fr14_fits_ok hp2)] ?_
  exact AConf.fin

-- triggerstore/triggerstoreref11.source
def Fr11_source.j0 (q5 : Bool) : Option Bool :=
  (some q5)
def Fr11_source (k : Nat) (a0 : List UInt8) : Option Bool :=
  ((Fr4_ValidName k a0).bind fun p6 => (if p6 = true then (Fr11_source.j0 true) else (if decide (a0 = ([73, 78, 83, 69, 82, 84, 69, 68])) = true then (Fr11_source.j0 true) else (Fr11_source.j0 (decide (a0 = ([68, 69, 76, 69, 84, 69, 68])))))))
theorem fr11_source_ok {k : Nat} {a0 : List UInt8} {r : Bool} (h : Fr11_source k a0 = some r) :
    ACalls Tryz.prog gl 127 [(pS a0)] [] (pB r) [] [] := by
  refine ACalls.enter sys Tryz.func127 fun w F ν => ?_
  unfold Fr11_source at h
  refine AConf.go sys 8001 100 [] ?_
  refine AConf.join (ι := Bool) (bodyOf Tryz.f127) [1] (fun q5 => Fr11_source.j0 q5 = some r) (fun (q5 : Bool) => ([(2, some (pB q5))], [])) ?_ fun q5 h => ?_
  · obtain ⟨p6, hp7, h⟩ := bind_some h
    refine AConf.go sys 0 100 [.call (fr4_ValidName_ok hp7)] ?_
    rcases ite_or h with ⟨hb8, h⟩ | ⟨hb8, h⟩
    · refine AConf.go sys 0 100 [.kk 2 hb8, .kk 2 (rfl : true = _)] ?_
      exact AConf.joinN (i := true) h
    · refine AConf.go sys 0 100 [.kk 2 hb8] ?_
      rcases ite_or h with ⟨hb9, h⟩ | ⟨hb9, h⟩
      · refine AConf.go sys 0 100 [.kk 2 hb9] ?_
        exact AConf.joinN (i := true) h
      · refine AConf.go sys 0 100 [.kk 2 hb9] ?_
        exact AConf.joinN (i := (decide (a0 = ([68, 69, 76, 69, 84, 69, 68])))) h
  · unfold Fr11_source.j0 at h
    obtain rfl := Option.some.inj h
    refine AConf.go sys 0 100 [] ?_
    exact AConf.fin

-- triggerstore/triggerstoreref1.Valid
def Fr1_Valid.j16 (q189 : Bool) : Option Bool :=
  (some q189)
def Fr1_Valid.j17 (q195 : Bool) : Option Bool :=
  (some q195)
def Fr1_Valid.j31 (s344 : Int) (q364 : Bool) : Option (Go.Ab.Step Bool Int) :=
  (if q364 = true then (some (.ret false)) else (some (.cont (w64 (s344 + 1)))))
def Fr1_Valid.b3 (a0 : GValue) (s344 : Int) : Option (Go.Ab.Step Bool Int) :=
  (if decide (s344 < (a0.Text.length : Int)) = true then ((idx a0.Text s344).bind fun v366 => (if decide ((v366.toNat : Int) < 32) = true then (Fr1_Valid.j31 s344 true) else ((idx a0.Text s344).bind fun v369 => (Fr1_Valid.j31 s344 (decide (126 < (v369.toNat : Int))))))) else (some (.brk s344)))
def Fr1_Valid.j19 (k : Nat) (a0 : GValue) (q204 : Bool) : Option Bool :=
  (if q204 = true then (some false) else ((loopN (Fr1_Valid.b3 a0) k 0).bind fun out => Out.el out (fun r0 => some r0) fun s371 => (some true)))
def Fr1_Valid (k : Nat) (a0 : GValue) : Option Bool :=
  (if decide (a0.Kind = 0) = true then (if decide (a0.Int = 0) = true then (Fr1_Valid.j16 (decide (a0.Text = []))) else (Fr1_Valid.j16 false)) else (if decide (a0.Kind = 1) = true then (some (decide (a0.Text = []))) else (if decide (a0.Kind = 2) = true then (if decide (a0.Int = 0) = true then (Fr1_Valid.j17 (decide (a0.Text = []))) else (if decide (a0.Int = 1) = true then (Fr1_Valid.j17 (decide (a0.Text = []))) else (Fr1_Valid.j17 false))) else (if decide (a0.Kind = 3) = true then (if decide (a0.Int = 0) = true then (Fr1_Valid.j19 k a0 (decide (64 < (a0.Text.length : Int)))) else (Fr1_Valid.j19 k a0 true)) else (some false)))))
theorem fr1_Valid_ok {k : Nat} {a0 : GValue} {r : Bool} (h : Fr1_Valid k a0 = some r) :
    ACalls Tryz.prog gl 115 [(.agg (GValue.pvs a0))] [] (pB r) [] [] := by
  refine ACalls.enter sys Tryz.func115 fun w F ν => ?_
  unfold Fr1_Valid at h
  rcases ite_or h with ⟨hb187, h⟩ | ⟨hb187, h⟩
  · refine AConf.go sys 5936 100 [.k hb187] ?_
    refine AConf.join (ι := Bool) (bodyOf Tryz.f115) [4, 1, 3, 1, 0, 1] (fun q189 => Fr1_Valid.j16 q189 = some r) (fun (q189 : Bool) => ([(2, some (pB q189))], [])) ?_ fun q189 h => ?_
    · rcases ite_or h with ⟨hb190, h⟩ | ⟨hb190, h⟩
      · refine AConf.go sys 0 101 [.kk 3 hb190] ?_
        exact AConf.joinN (i := (decide (a0.Text = []))) h
      · refine AConf.go sys 0 101 [.kk 3 hb190] ?_
        exact AConf.joinN (i := false) h
    · unfold Fr1_Valid.j16 at h
      obtain rfl := Option.some.inj h
      refine AConf.go sys 0 101 [] ?_
      exact AConf.fin
  · refine AConf.go sys 0 100 [.k hb187] ?_
    rcases ite_or h with ⟨hb191, h⟩ | ⟨hb191, h⟩
    · obtain rfl := Option.some.inj h
      refine AConf.go sys 0 101 [.k hb191] ?_
      exact AConf.fin
    · refine AConf.go sys 0 101 [.k hb191] ?_
      rcases ite_or h with ⟨hb192, h⟩ | ⟨hb192, h⟩
      · refine AConf.go sys 4999 101 [.k hb192] ?_
        refine AConf.join (ι := Bool) (bodyOf Tryz.f115) [4, 1, 5, 1, 5, 1, 3, 1, 0, 1] (fun q195 => Fr1_Valid.j17 q195 = some r) (fun (q195 : Bool) => ([(2, some (pB q195))], [])) ?_ fun q195 h => ?_
        · rcases ite_or h with ⟨hb196, h⟩ | ⟨hb196, h⟩
          · refine AConf.go sys 0 101 [.kk 3 hb196, .kk 3 (rfl : true = _)] ?_
            exact AConf.joinN (i := (decide (a0.Text = []))) h
          · refine AConf.go sys 0 101 [.kk 3 hb196] ?_
            rcases ite_or h with ⟨hb197, h⟩ | ⟨hb197, h⟩
            · refine AConf.go sys 0 101 [.kk 3 hb197] ?_
              exact AConf.joinN (i := (decide (a0.Text = []))) h
            · refine AConf.go sys 0 101 [.kk 3 hb197] ?_
              exact AConf.joinN (i := false) h
        · unfold Fr1_Valid.j17 at h
          obtain rfl := Option.some.inj h
          refine AConf.go sys 0 101 [] ?_
          exact AConf.fin
      · refine AConf.go sys 0 101 [.k hb192] ?_
        rcases ite_or h with ⟨hb198, h⟩ | ⟨hb198, h⟩
        · refine AConf.go sys 6856 101 [.k hb198] ?_
          refine AConf.join (ι := Bool) (bodyOf Tryz.f115) [0, 4, 1, 5, 1, 5, 1, 5, 1, 3, 1, 0, 1] (fun q204 => Fr1_Valid.j19 k a0 q204 = some r) (fun (q204 : Bool) => ([(1, some (.ptr 100 0)), (2, some (pB false)), (46, some (pB q204))], [(100, some (.var (GValue.pvs a0)))])) ?_ fun q204 h => ?_
          · rcases ite_or h with ⟨hb372, h⟩ | ⟨hb372, h⟩
            · refine AConf.go sys 0 101 [.kk 4 (notT hb372)] ?_
              exact AConf.joinN (i := (decide (64 < (a0.Text.length : Int)))) h
            · refine AConf.go sys 0 101 [.kk 4 (notF hb372)] ?_
              exact AConf.joinN (i := true) h
          · unfold Fr1_Valid.j19 at h
            rcases ite_or h with ⟨hb205, h⟩ | ⟨hb205, h⟩
            · obtain rfl := Option.some.inj h
              refine AConf.go sys 0 101 [.k hb205] ?_
              exact AConf.fin
            · refine AConf.go sys 0 101 [.k hb205] ?_
              refine AConf.rounds (bodyOf Tryz.f115) [1, 0, 1, 4, 1, 5, 1, 5, 1, 5, 1, 3, 1, 0, 1] (fun (s344 : Int) => ([(1, some (.ptr 100 0)), (2, some (pB false)), (3, some (pI s344))], [(100, some (.var (GValue.pvs a0)))])) h (fun _ h => h.symm) (fun s371 h => ?_) (fun s344 o343 h hrt => ?_)
              · obtain rfl := Option.some.inj h
                refine AConf.go sys 0 101 [] ?_
                exact AConf.fin
              · unfold Fr1_Valid.b3 at h
                rcases ite_or h with ⟨hb346, h⟩ | ⟨hb346, h⟩
                · refine AConf.go sys 9502 101 [.k hb346] ?_
                  refine AConf.join (ι := Bool) (bodyOf Tryz.f115) [3, 0, 1, 8, 1, 0, 1, 4, 1, 5, 1, 5, 1, 5, 1, 3, 1, 0, 1] (fun q364 => Fr1_Valid.j31 s344 q364 = some o343) (fun (q364 : Bool) => ([(1, some (.ptr 100 0)), (2, some (pB false)), (3, some (pI s344)), (65, some (pB q364))], [(100, some (.var (GValue.pvs a0)))])) ?_ fun q364 h => ?_
                  · obtain ⟨v366, hv367, h⟩ := bind_some h
                    refine AConf.go sys 0 101 [.c hv367] ?_
                    rcases ite_or h with ⟨hb368, h⟩ | ⟨hb368, h⟩
                    · refine AConf.go sys 0 101 [.kk 5 hb368] ?_
                      exact AConf.joinN (i := true) h
                    · obtain ⟨v369, hv370, h⟩ := bind_some h
                      refine AConf.go sys 0 101 [.kk 3 hb368, .c hv370, .kk 1 hb368] ?_
                      exact AConf.joinN (i := (decide (126 < (v369.toNat : Int)))) h
                  · unfold Fr1_Valid.j31 at h
                    rcases ite_or h with ⟨hb365, h⟩ | ⟨hb365, h⟩
                    · obtain rfl := Option.some.inj h
                      obtain rfl := hrt _ rfl
                      refine AConf.go sys 0 101 [.k hb365] ?_
                      refine AConf.stpR ?_
                      exact AConf.fin
                    · refine AConf.go sys 0 101 [.k hb365] ?_
                      exact AConf.stpC h
                · refine AConf.go sys 0 101 [.k hb346] ?_
                  exact AConf.stpB h
        · obtain rfl := Option.some.inj h
          refine AConf.go sys 0 101 [.k hb198] ?_
          exact AConf.fin

-- triggerstore/triggerstoreref11.plain
def Fr11_plain.j0 (q3 : Bool) : Option Bool :=
  (some q3)
def Fr11_plain (k : Nat) (a0 : GExpr) : Option Bool :=
  (if decide (a0.Value = (GValue.mk 0 0 [])) = true then (if decide (a0.Table = []) = true then (Fr11_plain.j0 (decide (a0.Name = []))) else (Fr11_plain.j0 false)) else (Fr11_plain.j0 false))
theorem fr11_plain_ok {k : Nat} {a0 : GExpr} {r : Bool} (h : Fr11_plain k a0 = some r) :
    ACalls Tryz.prog gl 128 [(.agg (GExpr.pvs a0))] [] (pB r) [] [] := by
  refine ACalls.enter sys Tryz.func128 fun w F ν => ?_
  unfold Fr11_plain at h
  refine AConf.go sys 8001 100 [] ?_
  refine AConf.join (ι := Bool) (bodyOf Tryz.f128) [1] (fun q3 => Fr11_plain.j0 q3 = some r) (fun (q3 : Bool) => ([(2, some (pB q3))], [])) ?_ fun q3 h => ?_
  · refine AConf.go sys 0 101 [.eq eg91 (eq91 a0.Value (GValue.mk 0 0 []))] ?_
    rcases ite_or h with ⟨hb4, h⟩ | ⟨hb4, h⟩
    · refine AConf.go sys 0 101 [.kk 3 hb4] ?_
      rcases ite_or h with ⟨hb5, h⟩ | ⟨hb5, h⟩
      · refine AConf.go sys 0 101 [.kk 3 hb5] ?_
        exact AConf.joinN (i := (decide (a0.Name = []))) h
      · refine AConf.go sys 0 101 [.kk 3 hb5] ?_
        exact AConf.joinN (i := false) h
    · refine AConf.go sys 0 101 [.kk 3 hb4, .kk 3 (rfl : false = _)] ?_
      exact AConf.joinN (i := false) h
  · unfold Fr11_plain.j0 at h
    obtain rfl := Option.some.inj h
    refine AConf.go sys 0 101 [] ?_
    exact AConf.fin

-- triggerstore/triggerstoreref11.ValidExpr
-- triggerstore/triggerstoreref11.all
structure Recr11_all where
  rr11_all : (List GExpr) → Option Bool
  rr11_ValidExpr : GExpr → Option Bool
structure Recr11_allOK (R : Recr11_all) : Prop where
  rr11_all : ∀ {a0 : List GExpr} {r : Bool}, R.rr11_all a0 = some r → ACalls Tryz.prog gl 85 [(pL GExpr.cells a0)] [] (pB r) [] []
  rr11_ValidExpr : ∀ {a0 : GExpr} {r : Bool}, R.rr11_ValidExpr a0 = some r → ACalls Tryz.prog gl 112 [(.agg (GExpr.pvs a0))] [] (pB r) [] []
def Fr11_all.b1 (R : Recr11_all) (x27 : GExpr) (i26 : Nat) (s25 : Unit) : Option (Go.Ab.Step Bool Unit) :=
  ((R.rr11_ValidExpr x27).bind fun p29 => (if p29 = true then (some (.cont ())) else (some (.ret false))))
def Fr11_allb (k : Nat) (R : Recr11_all) (a0 : List GExpr) : Option Bool :=
  ((loopL (Fr11_all.b1 R) a0 0 ()).bind fun out => Out.el out (fun r0 => some r0) fun _ => (some true))
theorem fr11_all_okb {k : Nat} {R : Recr11_all} (hR : Recr11_allOK R) {a0 : List GExpr} {r : Bool} (h : Fr11_allb k R a0 = some r) :
    ACalls Tryz.prog gl 85 [(pL GExpr.cells a0)] [] (pB r) [] [] := by
  refine ACalls.enter sys Tryz.func85 fun w F ν => ?_
  unfold Fr11_allb at h
  refine AConf.go sys 0 100 [.l GExpr.cells a0] ?_
  refine AConf.range (bodyOf Tryz.f85) [1, 0, 1] (fun (_s : Unit) => ([(2, some (pB false)), (5, some (pL GExpr.cells a0)), (6, some (pI (a0.length : Int)))], [])) (bR 0 GExpr.cells) h (fun _ h => h.symm) (fun _ h => ?_) (fun i26 x27 _ o24 hx28 h hrt => ?_)
  · obtain rfl := Option.some.inj h
    refine AConf.go sys 0 102 [] ?_
    exact AConf.fin
  · unfold Fr11_all.b1 at h
    obtain ⟨p29, hp30, h⟩ := bind_some h
    refine AConf.go sys 0 101 [.er GExpr.cells_eq hx28, .call (hR.rr11_ValidExpr hp30)] ?_
    rcases ite_or h with ⟨hb31, h⟩ | ⟨hb31, h⟩
    · refine AConf.go sys 0 102 [.k (notT hb31)] ?_
      exact AConf.rngC h
    · obtain rfl := Option.some.inj h
      obtain rfl := hrt _ rfl
      refine AConf.go sys 0 102 [.k (notF hb31)] ?_
      refine AConf.rngR ?_
      exact AConf.fin
def Fr11_ValidExpr.j5 (q71 : Bool) : Option Bool :=
  (some q71)
def Fr11_ValidExpr.j7 (q90 : Bool) : Option Bool :=
  (some q90)
def Fr11_ValidExpr.j6 (k : Nat) (a0 : GExpr) (q85 : Bool) : Option Bool :=
  (if q85 = true then ((Fr4_ValidName k a0.Name).bind fun p92 => (if p92 = true then (Fr11_ValidExpr.j7 (decide (a0.Value = (GValue.mk 0 0 [])))) else (Fr11_ValidExpr.j7 false))) else (Fr11_ValidExpr.j7 false))
def Fr11_ValidExpr.j13 (q207 : Bool) : Option (Go.Ab.Step Bool Unit) :=
  (if q207 = true then (some (.ret false)) else (some (.cont ())))
def Fr11_ValidExpr.b1 (k : Nat) (R : Recr11_all) (a0 : GExpr) (x196 : GQuery) (i195 : Nat) (s194 : Unit) : Option (Go.Ab.Step Bool Unit) :=
  (if (x196.Star == (decide (a0.Kind = 8))) = true then ((Fr11_source k x196.From).bind fun p210 => (if p210 = true then ((R.rr11_all x196.Items).bind fun p213 => (if p213 = true then ((R.rr11_all x196.Where).bind fun p216 => (Fr11_ValidExpr.j13 (!p216))) else (Fr11_ValidExpr.j13 true))) else (Fr11_ValidExpr.j13 true))) else (Fr11_ValidExpr.j13 true))
def Fr11_ValidExpr.j9 (k : Nat) (R : Recr11_all) (a0 : GExpr) (q117 : Bool) : Option Bool :=
  (if q117 = true then (some false) else ((loopL (Fr11_ValidExpr.b1 k R a0) a0.Sub 0 ()).bind fun out => Out.el out (fun r0 => some r0) fun _ => (some true)))
def Fr11_ValidExpr.j1 (k : Nat) (R : Recr11_all) (a0 : GExpr) (q24 : Bool) : Option Bool :=
  (if q24 = true then (some false) else (if decide (a0.Kind = 1) = true then ((Fr1_Valid k a0.Value).bind fun p72 => (if p72 = true then (if decide (a0.Value.Kind = 1) = true then (if decide (0 ≤ a0.Value.Int) = true then (if decide (a0.Table = []) = true then (Fr11_ValidExpr.j5 (decide (a0.Name = []))) else (Fr11_ValidExpr.j5 false)) else (Fr11_ValidExpr.j5 false)) else (if decide (a0.Table = []) = true then (Fr11_ValidExpr.j5 (decide (a0.Name = []))) else (Fr11_ValidExpr.j5 false))) else (Fr11_ValidExpr.j5 false))) else (if decide (a0.Kind = 2) = true then (if decide (a0.Table = []) = true then (Fr11_ValidExpr.j6 k a0 true) else ((Fr11_source k a0.Table).bind fun p96 => (if p96 = true then (Fr11_ValidExpr.j6 k a0 true) else (if decide (a0.Table = ([78, 69, 87])) = true then (Fr11_ValidExpr.j6 k a0 true) else (Fr11_ValidExpr.j6 k a0 (decide (a0.Table = ([79, 76, 68])))))))) else ((Fr11_plain k a0).bind fun p219 => (if p219 = true then ((R.rr11_all a0.Args).bind fun p222 => (Fr11_ValidExpr.j9 k R a0 (!p222))) else (Fr11_ValidExpr.j9 k R a0 true))))))
def Fr11_ValidExprb (k : Nat) (R : Recr11_all) (a0 : GExpr) : Option Bool :=
  ((Fr11_Shape k a0).bind fun p224 => (if p224 = true then (if decide (a0.Kind = 5) = true then (if decide (a0.Kind = 6) = true then (Fr11_ValidExpr.j1 k R a0 false) else (Fr11_ValidExpr.j1 k R a0 a0.Not)) else (if decide (a0.Op = 0) = true then (if decide (a0.Kind = 6) = true then (Fr11_ValidExpr.j1 k R a0 false) else (Fr11_ValidExpr.j1 k R a0 a0.Not)) else (Fr11_ValidExpr.j1 k R a0 true))) else (Fr11_ValidExpr.j1 k R a0 true)))
theorem fr11_ValidExpr_okb {k : Nat} {R : Recr11_all} (hR : Recr11_allOK R) {a0 : GExpr} {r : Bool} (h : Fr11_ValidExprb k R a0 = some r) :
    ACalls Tryz.prog gl 112 [(.agg (GExpr.pvs a0))] [] (pB r) [] [] := by
  refine ACalls.enter sys Tryz.func112 fun w F ν => ?_
  unfold Fr11_ValidExprb at h
  refine AConf.go sys 7142 100 [] ?_
  refine AConf.join (ι := Bool) (bodyOf Tryz.f112) [0, 1] (fun q24 => Fr11_ValidExpr.j1 k R a0 q24 = some r) (fun (q24 : Bool) => ([(1, some (.ptr 100 0)), (2, some (pB false)), (27, some (pB q24))], [(100, some (.var (GExpr.pvs a0)))])) ?_ fun q24 h => ?_
  · obtain ⟨p224, hp225, h⟩ := bind_some h
    refine AConf.go sys 0 103 [.call (fr11_Shape_ok hp225)] ?_
    rcases ite_or h with ⟨hb226, h⟩ | ⟨hb226, h⟩
    · refine AConf.go sys 0 103 [.kk 3 (notT hb226)] ?_
      rcases ite_or h with ⟨hb227, h⟩ | ⟨hb227, h⟩
      · refine AConf.go sys 0 103 [.kk 2 (notT hb227), .k (notT hb226), .k (notT hb227), .k (notT hb226), .kk 3 (rfl : false = _)] ?_
        rcases ite_or h with ⟨hb228, h⟩ | ⟨hb228, h⟩
        · refine AConf.go sys 0 103 [.kk 1 (notT hb228), .N, .k (notT hb228), .N] ?_
          exact AConf.joinN (i := false) h
        · refine AConf.go sys 0 103 [.kk 1 (notF hb228), .N, .k (notF hb228), .N] ?_
          exact AConf.joinN (i := a0.Not) h
      · refine AConf.go sys 0 103 [.kk 2 (notF hb227), .k (notT hb226), .k (notF hb227), .k (notT hb226)] ?_
        rcases ite_or h with ⟨hb229, h⟩ | ⟨hb229, h⟩
        · refine AConf.go sys 0 103 [.kk 3 (notT hb229)] ?_
          rcases ite_or h with ⟨hb230, h⟩ | ⟨hb230, h⟩
          · refine AConf.go sys 0 103 [.kk 1 (notT hb230), .k (notT hb229), .k (notT hb230), .k (notT hb229)] ?_
            exact AConf.joinN (i := false) h
          · refine AConf.go sys 0 103 [.kk 1 (notF hb230), .k (notT hb229), .k (notF hb230), .k (notT hb229)] ?_
            exact AConf.joinN (i := a0.Not) h
        · refine AConf.go sys 0 103 [.kk 5 (notF hb229)] ?_
          exact AConf.joinN (i := true) h
    · refine AConf.go sys 0 103 [.kk 5 (notF hb226), .kk 5 (rfl : true = _)] ?_
      exact AConf.joinN (i := true) h
  · unfold Fr11_ValidExpr.j1 at h
    rcases ite_or h with ⟨hb25, h⟩ | ⟨hb25, h⟩
    · obtain rfl := Option.some.inj h
      refine AConf.go sys 0 101 [.k hb25] ?_
      exact AConf.fin
    · refine AConf.go sys 0 101 [.k hb25] ?_
      rcases ite_or h with ⟨hb63, h⟩ | ⟨hb63, h⟩
      · refine AConf.go sys 6488 101 [.k hb63] ?_
        refine AConf.join (ι := Bool) (bodyOf Tryz.f112) [4, 1, 3, 1, 0, 1, 1] (fun q71 => Fr11_ValidExpr.j5 q71 = some r) (fun (q71 : Bool) => ([(1, some (.ptr 100 0)), (2, some (pB q71))], [(100, some (.var (GExpr.pvs a0)))])) ?_ fun q71 h => ?_
        · obtain ⟨p72, hp73, h⟩ := bind_some h
          refine AConf.go sys 0 101 [.call (fr1_Valid_ok hp73)] ?_
          rcases ite_or h with ⟨hb74, h⟩ | ⟨hb74, h⟩
          · refine AConf.go sys 0 101 [.kk 4 hb74] ?_
            rcases ite_or h with ⟨hb75, h⟩ | ⟨hb75, h⟩
            · refine AConf.go sys 0 101 [.kk 3 (notT hb75), .k hb74, .k (notT hb75), .k hb74] ?_
              rcases ite_or h with ⟨hb76, h⟩ | ⟨hb76, h⟩
              · refine AConf.go sys 0 101 [.kk 3 hb76] ?_
                rcases ite_or h with ⟨hb77, h⟩ | ⟨hb77, h⟩
                · refine AConf.go sys 0 101 [.kk 3 hb77] ?_
                  exact AConf.joinN (i := (decide (a0.Name = []))) h
                · refine AConf.go sys 0 101 [.kk 3 hb77] ?_
                  exact AConf.joinN (i := false) h
              · refine AConf.go sys 0 101 [.kk 3 hb76, .kk 3 (rfl : false = _)] ?_
                exact AConf.joinN (i := false) h
            · refine AConf.go sys 0 101 [.kk 3 (notF hb75), .k hb74, .k (notF hb75), .k hb74, .kk 3 (rfl : true = _)] ?_
              rcases ite_or h with ⟨hb78, h⟩ | ⟨hb78, h⟩
              · refine AConf.go sys 0 101 [.kk 3 hb78] ?_
                exact AConf.joinN (i := (decide (a0.Name = []))) h
              · refine AConf.go sys 0 101 [.kk 3 hb78] ?_
                exact AConf.joinN (i := false) h
          · refine AConf.go sys 0 101 [.kk 6 hb74, .kk 7 (rfl : false = _)] ?_
            exact AConf.joinN (i := false) h
        · unfold Fr11_ValidExpr.j5 at h
          obtain rfl := Option.some.inj h
          refine AConf.go sys 0 101 [] ?_
          exact AConf.fin
      · refine AConf.go sys 0 101 [.k hb63] ?_
        rcases ite_or h with ⟨hb79, h⟩ | ⟨hb79, h⟩
        · refine AConf.go sys 6836 101 [.k hb79] ?_
          refine AConf.join (ι := Bool) (bodyOf Tryz.f112) [4, 1, 5, 1, 3, 1, 0, 1, 1] (fun q85 => Fr11_ValidExpr.j6 k a0 q85 = some r) (fun (q85 : Bool) => ([(1, some (.ptr 100 0)), (2, some (pB false)), (3, some (pB q85))], [(100, some (.var (GExpr.pvs a0)))])) ?_ fun q85 h => ?_
          · rcases ite_or h with ⟨hb95, h⟩ | ⟨hb95, h⟩
            · refine AConf.go sys 0 101 [.kk 3 hb95, .kk 7 (rfl : true = _)] ?_
              exact AConf.joinN (i := true) h
            · obtain ⟨p96, hp97, h⟩ := bind_some h
              refine AConf.go sys 0 101 [.kk 2 hb95, .call (fr11_source_ok hp97), .k hb95] ?_
              rcases ite_or h with ⟨hb98, h⟩ | ⟨hb98, h⟩
              · refine AConf.go sys 0 101 [.kk 3 hb98, .kk 3 (rfl : true = _)] ?_
                exact AConf.joinN (i := true) h
              · refine AConf.go sys 0 101 [.kk 3 hb98] ?_
                rcases ite_or h with ⟨hb99, h⟩ | ⟨hb99, h⟩
                · refine AConf.go sys 0 101 [.kk 3 hb99] ?_
                  exact AConf.joinN (i := true) h
                · refine AConf.go sys 0 101 [.kk 3 hb99] ?_
                  exact AConf.joinN (i := (decide (a0.Table = ([79, 76, 68])))) h
          · unfold Fr11_ValidExpr.j6 at h
            refine AConf.go sys 8961 101 [] ?_
            refine AConf.join (ι := Bool) (bodyOf Tryz.f112) [1, 4, 1, 5, 1, 3, 1, 0, 1, 1] (fun q90 => Fr11_ValidExpr.j7 q90 = some r) (fun (q90 : Bool) => ([(1, some (.ptr 100 0)), (2, some (pB q90))], [(100, some (.var (GExpr.pvs a0)))])) ?_ fun q90 h => ?_
            · rcases ite_or h with ⟨hb91, h⟩ | ⟨hb91, h⟩
              · obtain ⟨p92, hp93, h⟩ := bind_some h
                refine AConf.go sys 0 101 [.kk 2 hb91, .call (fr4_ValidName_ok hp93), .k hb91] ?_
                rcases ite_or h with ⟨hb94, h⟩ | ⟨hb94, h⟩
                · refine AConf.go sys 0 101 [.kk 3 hb94, .eq eg91 (eq91 a0.Value (GValue.mk 0 0 [])), .k hb94] ?_
                  exact AConf.joinN (i := (decide (a0.Value = (GValue.mk 0 0 [])))) h
                · refine AConf.go sys 0 101 [.kk 4 hb94] ?_
                  exact AConf.joinN (i := false) h
              · refine AConf.go sys 0 101 [.kk 3 hb91, .kk 4 (rfl : false = _)] ?_
                exact AConf.joinN (i := false) h
            · unfold Fr11_ValidExpr.j7 at h
              obtain rfl := Option.some.inj h
              refine AConf.go sys 0 101 [] ?_
              exact AConf.fin
        · refine AConf.go sys 8959 101 [.k hb79] ?_
          refine AConf.join (ι := Bool) (bodyOf Tryz.f112) [0, 1, 1, 1] (fun q117 => Fr11_ValidExpr.j9 k R a0 q117 = some r) (fun (q117 : Bool) => ([(1, some (.ptr 100 0)), (2, some (pB false)), (97, some (pB q117))], [(100, some (.var (GExpr.pvs a0)))])) ?_ fun q117 h => ?_
          · obtain ⟨p219, hp220, h⟩ := bind_some h
            refine AConf.go sys 0 103 [.call (fr11_plain_ok hp220)] ?_
            rcases ite_or h with ⟨hb221, h⟩ | ⟨hb221, h⟩
            · obtain ⟨p222, hp223, h⟩ := bind_some h
              refine AConf.go sys 0 103 [.kk 2 (notT hb221), .call (hR.rr11_all hp223), .kk 1 (notT hb221)] ?_
              exact AConf.joinN (i := (!p222)) h
            · refine AConf.go sys 0 103 [.kk 4 (notF hb221)] ?_
              exact AConf.joinN (i := true) h
          · unfold Fr11_ValidExpr.j9 at h
            rcases ite_or h with ⟨hb118, h⟩ | ⟨hb118, h⟩
            · obtain rfl := Option.some.inj h
              refine AConf.go sys 0 101 [.k hb118] ?_
              exact AConf.fin
            · refine AConf.go sys 0 101 [.k hb118, .l GQuery.cells a0.Sub] ?_
              refine AConf.range (bodyOf Tryz.f112) [1, 0, 1, 1, 1, 1] (fun (_s : Unit) => ([(1, some (.ptr 100 0)), (2, some (pB false)), (99, some (pL GQuery.cells a0.Sub)), (100, some (pI (a0.Sub.length : Int)))], [(100, some (.var (GExpr.pvs a0)))])) (bR 99 GQuery.cells) h (fun _ h => h.symm) (fun _ h => ?_) (fun i195 x196 _ o193 hx197 h hrt => ?_)
              · obtain rfl := Option.some.inj h
                refine AConf.go sys 0 103 [] ?_
                exact AConf.fin
              · unfold Fr11_ValidExpr.b1 at h
                refine AConf.go sys 2392 102 [.er GQuery.cells_eq hx197] ?_
                refine AConf.join (ι := Bool) (bodyOf Tryz.f112) [1, 9, 1, 0, 1, 1, 1, 1] (fun q207 => Fr11_ValidExpr.j13 q207 = some o193) (fun (q207 : Bool) => ([(1, some (.ptr 100 0)), (2, some (pB false)), (99, some (pL GQuery.cells a0.Sub)), (100, some (pI (a0.Sub.length : Int))), (101, some (pI (i195 : Int))), (128, some (pB q207))], [(100, some (.var (GExpr.pvs a0)))])) ?_ fun q207 h => ?_
                · rcases ite_or h with ⟨hb209, h⟩ | ⟨hb209, h⟩
                  · obtain ⟨p210, hp211, h⟩ := bind_some h
                    refine AConf.go sys 0 103 [.kk 2 (notT hb209), .call (fr11_source_ok hp211), .kk 1 (notT hb209)] ?_
                    rcases ite_or h with ⟨hb212, h⟩ | ⟨hb212, h⟩
                    · obtain ⟨p213, hp214, h⟩ := bind_some h
                      refine AConf.go sys 0 103 [.kk 2 (notT hb212), .call (hR.rr11_all hp214), .kk 1 (notT hb212)] ?_
                      rcases ite_or h with ⟨hb215, h⟩ | ⟨hb215, h⟩
                      · obtain ⟨p216, hp217, h⟩ := bind_some h
                        refine AConf.go sys 0 103 [.kk 2 (notT hb215), .call (hR.rr11_all hp217), .kk 1 (notT hb215)] ?_
                        exact AConf.joinN (i := (!p216)) h
                      · refine AConf.go sys 0 103 [.kk 4 (notF hb215)] ?_
                        exact AConf.joinN (i := true) h
                    · refine AConf.go sys 0 103 [.kk 4 (notF hb212), .kk 4 (rfl : true = _)] ?_
                      exact AConf.joinN (i := true) h
                  · refine AConf.go sys 0 103 [.kk 4 (notF hb209), .kk 9 (rfl : true = _)] ?_
                    exact AConf.joinN (i := true) h
                · unfold Fr11_ValidExpr.j13 at h
                  rcases ite_or h with ⟨hb208, h⟩ | ⟨hb208, h⟩
                  · obtain rfl := Option.some.inj h
                    obtain rfl := hrt _ rfl
                    refine AConf.go sys 0 103 [.k hb208] ?_
                    refine AConf.rngR ?_
                    exact AConf.fin
                  · refine AConf.go sys 0 103 [.k hb208] ?_
                    exact AConf.rngC h
def recr11_all (k : Nat) : Nat → Recr11_all
  | 0 => ⟨fun _ => none, fun _ => none⟩
  | n + 1 => ⟨Fr11_allb k (recr11_all k n), Fr11_ValidExprb k (recr11_all k n)⟩
theorem recr11_all_ok (k : Nat) : ∀ n, Recr11_allOK (recr11_all k n)
  | 0 => ⟨fun h => absurd (show none = some _ from h) nofun, fun h => absurd (show none = some _ from h) nofun⟩
  | n + 1 => ⟨fun h => fr11_all_okb (k := k) (recr11_all_ok k n) h, fun h => fr11_ValidExpr_okb (k := k) (recr11_all_ok k n) h⟩
def Fr11_all (k : Nat) (a0 : List GExpr) : Option Bool := Fr11_allb k (recr11_all k k) a0
theorem fr11_all_ok {k : Nat} {a0 : List GExpr} {r : Bool} (h : Fr11_all k a0 = some r) : ACalls Tryz.prog gl 85 [(pL GExpr.cells a0)] [] (pB r) [] [] := fr11_all_okb (k := k) (recr11_all_ok k k) h
def Fr11_ValidExpr (k : Nat) (a0 : GExpr) : Option Bool := Fr11_ValidExprb k (recr11_all k k) a0
theorem fr11_ValidExpr_ok {k : Nat} {a0 : GExpr} {r : Bool} (h : Fr11_ValidExpr k a0 = some r) : ACalls Tryz.prog gl 112 [(.agg (GExpr.pvs a0))] [] (pB r) [] [] := fr11_ValidExpr_okb (k := k) (recr11_all_ok k k) h

-- triggerstore/triggerstoreref11.ValidQuery
def Fr11_ValidQuery.j2 (q25 : Bool) : Option Bool :=
  (some q25)
def Fr11_ValidQuery.j1 (k : Nat) (a0 : GQuery) (q18 : Bool) : Option Bool :=
  (if q18 = true then (some false) else ((Fr11_all k a0.Items).bind fun p26 => (if p26 = true then ((Fr11_all k a0.Where).bind fun p29 => (Fr11_ValidQuery.j2 p29)) else (Fr11_ValidQuery.j2 false))))
def Fr11_ValidQuery (k : Nat) (a0 : GQuery) : Option Bool :=
  ((Fr11_source k a0.From).bind fun p31 => (if p31 = true then (if decide (1 < (a0.Where.length : Int)) = true then (Fr11_ValidQuery.j1 k a0 true) else (if decide (8 < (a0.Items.length : Int)) = true then (Fr11_ValidQuery.j1 k a0 true) else (Fr11_ValidQuery.j1 k a0 (!(a0.Star == (decide ((a0.Items.length : Int) = 0))))))) else (Fr11_ValidQuery.j1 k a0 true)))
theorem fr11_ValidQuery_ok {k : Nat} {a0 : GQuery} {r : Bool} (h : Fr11_ValidQuery k a0 = some r) :
    ACalls Tryz.prog gl 129 [(.agg (GQuery.pvs a0))] [] (pB r) [] [] := by
  refine ACalls.enter sys Tryz.func129 fun w F ν => ?_
  unfold Fr11_ValidQuery at h
  refine AConf.go sys 7142 100 [] ?_
  refine AConf.join (ι := Bool) (bodyOf Tryz.f129) [0, 1] (fun q18 => Fr11_ValidQuery.j1 k a0 q18 = some r) (fun (q18 : Bool) => ([(1, some (.ptr 100 0)), (2, some (pB false)), (27, some (pB q18))], [(100, some (.var (GQuery.pvs a0)))])) ?_ fun q18 h => ?_
  · obtain ⟨p31, hp32, h⟩ := bind_some h
    refine AConf.go sys 0 101 [.call (fr11_source_ok hp32)] ?_
    rcases ite_or h with ⟨hb33, h⟩ | ⟨hb33, h⟩
    · refine AConf.go sys 0 101 [.kk 2 (notT hb33), .l GExpr.cells a0.Where, .kk 1 (notT hb33)] ?_
      rcases ite_or h with ⟨hb34, h⟩ | ⟨hb34, h⟩
      · refine AConf.go sys 0 101 [.kk 4 hb34, .kk 7 (rfl : true = _)] ?_
        exact AConf.joinN (i := true) h
      · refine AConf.go sys 0 101 [.kk 2 hb34, .l GExpr.cells a0.Items, .kk 1 hb34] ?_
        rcases ite_or h with ⟨hb35, h⟩ | ⟨hb35, h⟩
        · refine AConf.go sys 0 101 [.kk 7 hb35] ?_
          exact AConf.joinN (i := true) h
        · refine AConf.go sys 0 101 [.kk 4 hb35, .l GExpr.cells a0.Items, .kk 2 hb35] ?_
          exact AConf.joinN (i := (!(a0.Star == (decide ((a0.Items.length : Int) = 0))))) h
    · refine AConf.go sys 0 101 [.kk 4 (notF hb33), .kk 12 (rfl : true = _)] ?_
      exact AConf.joinN (i := true) h
  · unfold Fr11_ValidQuery.j1 at h
    rcases ite_or h with ⟨hb19, h⟩ | ⟨hb19, h⟩
    · obtain rfl := Option.some.inj h
      refine AConf.go sys 0 101 [.k hb19] ?_
      exact AConf.fin
    · refine AConf.go sys 7143 101 [.k hb19] ?_
      refine AConf.join (ι := Bool) (bodyOf Tryz.f129) [1, 1] (fun q25 => Fr11_ValidQuery.j2 q25 = some r) (fun (q25 : Bool) => ([(2, some (pB q25))], [])) ?_ fun q25 h => ?_
      · obtain ⟨p26, hp27, h⟩ := bind_some h
        refine AConf.go sys 0 101 [.call (fr11_all_ok hp27)] ?_
        rcases ite_or h with ⟨hb28, h⟩ | ⟨hb28, h⟩
        · obtain ⟨p29, hp30, h⟩ := bind_some h
          refine AConf.go sys 0 101 [.kk 2 hb28, .call (fr11_all_ok hp30), .k hb28] ?_
          exact AConf.joinN (i := p29) h
        · refine AConf.go sys 0 101 [.kk 3 hb28] ?_
          exact AConf.joinN (i := false) h
      · unfold Fr11_ValidQuery.j2 at h
        obtain rfl := Option.some.inj h
        refine AConf.go sys 0 101 [] ?_
        exact AConf.fin

-- triggerstore/triggerstoreref11.validInsert
def Fr11_validInsert.j5 (q64 : Bool) : Option (Go.Ab.Step Bool Unit) :=
  (if q64 = true then (some (.ret false)) else (some (.cont ())))
def Fr11_validInsert.b1 (k : Nat) (x58 : List GExpr) (i57 : Nat) (s56 : Unit) : Option (Go.Ab.Step Bool Unit) :=
  (if decide ((x58.length : Int) < 1) = true then (Fr11_validInsert.j5 true) else (if decide (6 < (x58.length : Int)) = true then (Fr11_validInsert.j5 true) else ((Fr11_all k x58).bind fun p68 => (Fr11_validInsert.j5 (!p68)))))
def Fr11_validInsert.j6 (q76 : Bool) : Option Bool :=
  (some q76)
def Fr11_validInsert.j1 (k : Nat) (a0 : GAction) (q9 : Bool) : Option Bool :=
  (if q9 = true then (some false) else ((loopL (Fr11_validInsert.b1 k) a0.Rows 0 ()).bind fun out => Out.el out (fun r0 => some r0) fun _ => (if decide ((a0.Query.length : Int) = 0) = true then (Fr11_validInsert.j6 true) else ((idx a0.Query 0).bind fun x78 => ((Fr11_ValidQuery k x78).bind fun p80 => (Fr11_validInsert.j6 p80))))))
def Fr11_validInsert (k : Nat) (a0 : GAction) : Option Bool :=
  (if decide (1 < (a0.Query.length : Int)) = true then (Fr11_validInsert.j1 k a0 true) else (if ((decide ((a0.Query.length : Int) = 1)) == (decide (0 < (a0.Rows.length : Int)))) = true then (Fr11_validInsert.j1 k a0 true) else (Fr11_validInsert.j1 k a0 (decide (8 < (a0.Rows.length : Int))))))
theorem fr11_validInsert_ok {k : Nat} {a0 : GAction} {r : Bool} (h : Fr11_validInsert k a0 = some r) :
    ACalls Tryz.prog gl 113 [(.agg (GAction.pvs a0))] [] (pB r) [] [] := by
  refine ACalls.enter sys Tryz.func113 fun w F ν => ?_
  unfold Fr11_validInsert at h
  refine AConf.go sys 7142 100 [] ?_
  refine AConf.join (ι := Bool) (bodyOf Tryz.f113) [0, 1] (fun q9 => Fr11_validInsert.j1 k a0 q9 = some r) (fun (q9 : Bool) => ([(1, some (.ptr 100 0)), (2, some (pB false)), (25, some (pB q9))], [(100, some (.var (GAction.pvs a0)))])) ?_ fun q9 h => ?_
  · refine AConf.go sys 0 101 [.l GQuery.cells a0.Query] ?_
    rcases ite_or h with ⟨hb82, h⟩ | ⟨hb82, h⟩
    · refine AConf.go sys 0 101 [.kk 9 hb82, .kk 4 (rfl : true = _)] ?_
      exact AConf.joinN (i := true) h
    · refine AConf.go sys 0 101 [.kk 2 hb82, .l GQuery.cells a0.Query, .kk 3 hb82, .l (cL GExpr.cells) a0.Rows, .kk 2 hb82] ?_
      rcases ite_or h with ⟨hb83, h⟩ | ⟨hb83, h⟩
      · refine AConf.go sys 0 101 [.kk 4 hb83] ?_
        exact AConf.joinN (i := true) h
      · refine AConf.go sys 0 101 [.kk 2 hb83, .l (cL GExpr.cells) a0.Rows, .kk 1 hb83] ?_
        exact AConf.joinN (i := (decide (8 < (a0.Rows.length : Int)))) h
  · unfold Fr11_validInsert.j1 at h
    rcases ite_or h with ⟨hb10, h⟩ | ⟨hb10, h⟩
    · obtain rfl := Option.some.inj h
      refine AConf.go sys 0 101 [.k hb10] ?_
      exact AConf.fin
    · refine AConf.go sys 0 101 [.k hb10, .l (cL GExpr.cells) a0.Rows] ?_
      refine AConf.range (bodyOf Tryz.f113) [1, 0, 1, 1] (fun (_s : Unit) => ([(1, some (.ptr 100 0)), (2, some (pB false)), (27, some (pL (cL GExpr.cells) a0.Rows)), (28, some (pI (a0.Rows.length : Int)))], [(100, some (.var (GAction.pvs a0)))])) (bR 27 (cL GExpr.cells)) h (fun _ h => h.symm) (fun _ h => ?_) (fun i57 x58 _ o55 hx59 h hrt => ?_)
      · refine AConf.go sys 1137 101 [] ?_
        refine AConf.join (ι := Bool) (bodyOf Tryz.f113) [1, 1, 1] (fun q76 => Fr11_validInsert.j6 q76 = some r) (fun (q76 : Bool) => ([(2, some (pB q76))], [])) ?_ fun q76 h => ?_
        · refine AConf.go sys 0 101 [.l GQuery.cells a0.Query] ?_
          rcases ite_or h with ⟨hb77, h⟩ | ⟨hb77, h⟩
          · refine AConf.go sys 0 101 [.kk 5 hb77] ?_
            exact AConf.joinN (i := true) h
          · obtain ⟨x78, hv79, h⟩ := bind_some h
            obtain ⟨p80, hp81, h⟩ := bind_some h
            refine AConf.go sys 0 101 [.kk 2 hb77, .xr GQuery.cells_eq hv79, .kk 1 hb77, .call (fr11_ValidQuery_ok hp81), .k hb77] ?_
            exact AConf.joinN (i := p80) h
        · unfold Fr11_validInsert.j6 at h
          obtain rfl := Option.some.inj h
          refine AConf.go sys 0 101 [] ?_
          exact AConf.fin
      · unfold Fr11_validInsert.b1 at h
        refine AConf.go sys 7949 101 [.e (cL GExpr.cells) hx59] ?_
        refine AConf.join (ι := Bool) (bodyOf Tryz.f113) [1, 9, 1, 0, 1, 1] (fun q64 => Fr11_validInsert.j5 q64 = some o55) (fun (q64 : Bool) => ([(1, some (.ptr 100 0)), (2, some (pB false)), (27, some (pL (cL GExpr.cells) a0.Rows)), (28, some (pI (a0.Rows.length : Int))), (29, some (pI (i57 : Int))), (45, some (pB q64))], [(100, some (.var (GAction.pvs a0)))])) ?_ fun q64 h => ?_
        · refine AConf.go sys 0 101 [.l GExpr.cells x58] ?_
          rcases ite_or h with ⟨hb66, h⟩ | ⟨hb66, h⟩
          · refine AConf.go sys 0 101 [.kk 3 hb66, .kk 3 (rfl : true = _)] ?_
            exact AConf.joinN (i := true) h
          · refine AConf.go sys 0 101 [.kk 1 hb66, .l GExpr.cells x58, .kk 1 hb66] ?_
            rcases ite_or h with ⟨hb67, h⟩ | ⟨hb67, h⟩
            · refine AConf.go sys 0 101 [.kk 3 hb67] ?_
              exact AConf.joinN (i := true) h
            · obtain ⟨p68, hp69, h⟩ := bind_some h
              refine AConf.go sys 0 101 [.kk 1 hb67, .call (fr11_all_ok hp69), .kk 1 hb67] ?_
              exact AConf.joinN (i := (!p68)) h
        · unfold Fr11_validInsert.j5 at h
          rcases ite_or h with ⟨hb65, h⟩ | ⟨hb65, h⟩
          · obtain rfl := Option.some.inj h
            obtain rfl := hrt _ rfl
            refine AConf.go sys 0 101 [.k hb65] ?_
            refine AConf.rngR ?_
            exact AConf.fin
          · refine AConf.go sys 0 101 [.k hb65] ?_
            exact AConf.rngC h

-- triggerstore/triggerstoreref11.validSets
def Fr11_validSets.b4 (x132 : GSet) (x163 : GSet) (i162 : Nat) (s161 : Unit) : Option (Go.Ab.Step Bool Unit) :=
  (if decide (x163.Column = x132.Column) = true then (some (.ret false)) else (some (.cont ())))
def Fr11_validSets.j7 (a0 : List GSet) (i131 : Nat) (x132 : GSet) (q151 : Bool) : Option (Go.Ab.Step Bool Unit) :=
  (if q151 = true then (some (.ret false)) else ((slc a0 0 (i131 : Int)).bind fun v153 => ((loopL (Fr11_validSets.b4 x132) v153 0 ()).bind fun out => Out.el out (fun r0 => some (.ret r0)) fun _ => (some (.cont ())))))
def Fr11_validSets.b5 (k : Nat) (a0 : List GSet) (x132 : GSet) (i131 : Nat) (s130 : Unit) : Option (Go.Ab.Step Bool Unit) :=
  ((Fr4_ValidName k x132.Column).bind fun p167 => (if p167 = true then ((Fr11_ValidExpr k x132.Expr).bind fun p170 => (Fr11_validSets.j7 a0 i131 x132 (!p170))) else (Fr11_validSets.j7 a0 i131 x132 true)))
def Fr11_validSets (k : Nat) (a0 : List GSet) : Option Bool :=
  ((loopL (Fr11_validSets.b5 k a0) a0 0 ()).bind fun out => Out.el out (fun r0 => some r0) fun _ => (some true))
theorem fr11_validSets_ok {k : Nat} {a0 : List GSet} {r : Bool} (h : Fr11_validSets k a0 = some r) :
    ACalls Tryz.prog gl 114 [(pL GSet.cells a0)] [] (pB r) [] [] := by
  refine ACalls.enter sys Tryz.func114 fun w F ν => ?_
  unfold Fr11_validSets at h
  refine AConf.go sys 0 100 [.l GSet.cells a0] ?_
  refine AConf.range (bodyOf Tryz.f114) [1, 0, 1] (fun (_s : Unit) => ([(0, some (pL GSet.cells a0)), (2, some (pB false)), (7, some (pL GSet.cells a0)), (8, some (pI (a0.length : Int)))], [])) (bR 0 GSet.cells) h (fun _ h => h.symm) (fun _ h => ?_) (fun i131 x132 _ o129 hx133 h hrt => ?_)
  · obtain rfl := Option.some.inj h
    refine AConf.go sys 0 106 [] ?_
    exact AConf.fin
  · unfold Fr11_validSets.b5 at h
    refine AConf.go sys 6226 103 [.e GSet.cells hx133] ?_
    refine AConf.join (ι := Bool) (bodyOf Tryz.f114) [0, 1, 9, 1, 0, 1] (fun q151 => Fr11_validSets.j7 a0 i131 x132 q151 = some o129) (fun (q151 : Bool) => ([(0, some (pL GSet.cells a0)), (2, some (pB false)), (3, some (pI (i131 : Int))), (4, some (.ptr 103 0)), (7, some (pL GSet.cells a0)), (8, some (pI (a0.length : Int))), (9, some (pI (i131 : Int))), (23, some (pB q151))], [(103, some (.var (GSet.pvs x132)))])) ?_ fun q151 h => ?_
    · obtain ⟨p167, hp168, h⟩ := bind_some h
      refine AConf.go sys 0 106 [.call (fr4_ValidName_ok hp168)] ?_
      rcases ite_or h with ⟨hb169, h⟩ | ⟨hb169, h⟩
      · obtain ⟨p170, hp171, h⟩ := bind_some h
        refine AConf.go sys 0 106 [.kk 2 (notT hb169), .call (fr11_ValidExpr_ok hp171), .kk 1 (notT hb169)] ?_
        exact AConf.joinN (i := (!p170)) h
      · refine AConf.go sys 0 106 [.kk 4 (notF hb169)] ?_
        exact AConf.joinN (i := true) h
    · unfold Fr11_validSets.j7 at h
      rcases ite_or h with ⟨hb152, h⟩ | ⟨hb152, h⟩
      · obtain rfl := Option.some.inj h
        obtain rfl := hrt _ rfl
        refine AConf.go sys 0 104 [.k hb152] ?_
        refine AConf.rngR ?_
        exact AConf.fin
      · obtain ⟨v153, hv154, h⟩ := bind_some h
        refine AConf.go sys 0 104 [.k hb152, .s GSet.cells_len hv154, .l GSet.cells v153] ?_
        refine AConf.range (bodyOf Tryz.f114) [1, 1, 1, 9, 1, 0, 1] (fun (_s : Unit) => ([(0, some (pL GSet.cells a0)), (2, some (pB false)), (4, some (.ptr 103 0)), (7, some (pL GSet.cells a0)), (8, some (pI (a0.length : Int))), (9, some (pI (i131 : Int))), (26, some (pL GSet.cells v153)), (27, some (pI (v153.length : Int)))], [(103, some (.var (GSet.pvs x132)))])) (bR 26 GSet.cells) h hrt (fun _ h => ?_) (fun i162 x163 _ o160 hx164 h hrt => ?_)
        · refine AConf.go sys 0 106 [] ?_
          exact AConf.rngC h
        · unfold Fr11_validSets.b4 at h
          refine AConf.go sys 0 105 [.e GSet.cells hx164] ?_
          rcases ite_or h with ⟨hb165, h⟩ | ⟨hb165, h⟩
          · obtain rfl := Option.some.inj h
            obtain rfl := hrt _ rfl
            refine AConf.go sys 0 106 [.k hb165] ?_
            refine AConf.rngR ?_
            refine AConf.rngR ?_
            exact AConf.fin
          · refine AConf.go sys 0 106 [.k hb165] ?_
            exact AConf.rngC h

-- triggerstore/triggerstoreref11.ValidAction
def Fr11_ValidAction.j8 (q124 : Bool) : Option Bool :=
  (some q124)
def Fr11_ValidAction.j9 (q137 : Bool) : Option Bool :=
  (some q137)
def Fr11_ValidAction.j5 (k : Nat) (a0 : GAction) (q89 : Bool) : Option Bool :=
  (if q89 = true then (some false) else (if decide (a0.Kind = 1) = true then ((Fr11_validInsert k a0).bind fun p117 => (some p117)) else (if decide (a0.Kind = 2) = true then (if decide (1 ≤ (a0.Sets.length : Int)) = true then (if decide ((a0.Sets.length : Int) ≤ 8) = true then ((Fr11_validSets k a0.Sets).bind fun p127 => (Fr11_ValidAction.j8 p127)) else (Fr11_ValidAction.j8 false)) else (Fr11_ValidAction.j8 false)) else (if decide (a0.Kind = 3) = true then (some true) else (if decide (a0.Kind = 4) = true then ((Fr1_Valid k (GValue.mk 3 0 a0.Text)).bind fun p131 => (some p131)) else (if decide (a0.Kind = 5) = true then (if decide ((a0.Sets.length : Int) = 1) = true then ((Fr11_validSets k a0.Sets).bind fun p139 => (Fr11_ValidAction.j9 p139)) else (Fr11_ValidAction.j9 false)) else (some false)))))))
def Fr11_ValidAction.j3 (k : Nat) (a0 : GAction) (q76 : Bool) : Option Bool :=
  (if q76 = true then (some false) else (if decide (1 < (a0.Where.length : Int)) = true then (Fr11_ValidAction.j5 k a0 true) else ((Fr11_all k a0.Where).bind fun p142 => (Fr11_ValidAction.j5 k a0 (!p142)))))
def Fr11_ValidAction.j1 (k : Nat) (a0 : GAction) (q36 : Bool) : Option Bool :=
  (if q36 = true then (some false) else (if decide (a0.Kind = 1) = true then (if decide (a0.Kind = 2) = true then (Fr11_ValidAction.j3 k a0 false) else (if decide (a0.Kind = 5) = true then (if decide (a0.Kind = 3) = true then (Fr11_ValidAction.j3 k a0 false) else (Fr11_ValidAction.j3 k a0 (decide (0 < (a0.Where.length : Int))))) else (if decide (0 < (a0.Sets.length : Int)) = true then (Fr11_ValidAction.j3 k a0 true) else (if decide (a0.Kind = 3) = true then (Fr11_ValidAction.j3 k a0 false) else (Fr11_ValidAction.j3 k a0 (decide (0 < (a0.Where.length : Int)))))))) else (if decide (0 < (w64 ((a0.Rows.length : Int) + (a0.Query.length : Int)))) = true then (Fr11_ValidAction.j3 k a0 true) else (if decide (a0.Kind = 2) = true then (Fr11_ValidAction.j3 k a0 false) else (if decide (a0.Kind = 5) = true then (if decide (a0.Kind = 3) = true then (Fr11_ValidAction.j3 k a0 false) else (Fr11_ValidAction.j3 k a0 (decide (0 < (a0.Where.length : Int))))) else (if decide (0 < (a0.Sets.length : Int)) = true then (Fr11_ValidAction.j3 k a0 true) else (if decide (a0.Kind = 3) = true then (Fr11_ValidAction.j3 k a0 false) else (Fr11_ValidAction.j3 k a0 (decide (0 < (a0.Where.length : Int)))))))))))
def Fr11_ValidAction (k : Nat) (a0 : GAction) : Option Bool :=
  (if decide (a0.Kind = 4) = true then (if (true == (decide (a0.Table = []))) = true then (if decide (a0.Table = []) = true then (Fr11_ValidAction.j1 k a0 false) else ((Fr4_ValidName k a0.Table).bind fun p159 => (if p159 = true then (Fr11_ValidAction.j1 k a0 false) else (Fr11_ValidAction.j1 k a0 true)))) else (Fr11_ValidAction.j1 k a0 true)) else (if ((decide (a0.Kind = 5)) == (decide (a0.Table = []))) = true then (if decide (a0.Table = []) = true then (Fr11_ValidAction.j1 k a0 (!decide (a0.Text = []))) else ((Fr4_ValidName k a0.Table).bind fun p164 => (if p164 = true then (Fr11_ValidAction.j1 k a0 (!decide (a0.Text = []))) else (Fr11_ValidAction.j1 k a0 true)))) else (Fr11_ValidAction.j1 k a0 true)))
theorem fr11_ValidAction_ok {k : Nat} {a0 : GAction} {r : Bool} (h : Fr11_ValidAction k a0 = some r) :
    ACalls Tryz.prog gl 86 [(.agg (GAction.pvs a0))] [] (pB r) [] [] := by
  refine ACalls.enter sys Tryz.func86 fun w F ν => ?_
  unfold Fr11_ValidAction at h
  refine AConf.go sys 7142 100 [] ?_
  refine AConf.join (ι := Bool) (bodyOf Tryz.f86) [0, 1] (fun q36 => Fr11_ValidAction.j1 k a0 q36 = some r) (fun (q36 : Bool) => ([(1, some (.ptr 100 0)), (2, some (pB false)), (35, some (pB q36))], [(100, some (.var (GAction.pvs a0)))])) ?_ fun q36 h => ?_
  · rcases ite_or h with ⟨hb156, h⟩ | ⟨hb156, h⟩
    · refine AConf.go sys 0 101 [.kk 3 hb156] ?_
      rcases ite_or h with ⟨hb157, h⟩ | ⟨hb157, h⟩
      · refine AConf.go sys 0 101 [.kk 3 (notT hb157)] ?_
        rcases ite_or h with ⟨hb158, h⟩ | ⟨hb158, h⟩
        · refine AConf.go sys 0 101 [.kk 3 (notT hb158), .k (notT hb157), .k (notT hb158), .k (notT hb157), .kk 3 (rfl : false = _), .kk 2 (notT hb156), .N, .k (notT hb156), .N] ?_
          exact AConf.joinN (i := false) h
        · obtain ⟨p159, hp160, h⟩ := bind_some h
          refine AConf.go sys 0 101 [.kk 2 (notF hb158), .call (fr4_ValidName_ok hp160), .k (notF hb158), .k (notT hb157), .k (notF hb158), .k (notT hb157)] ?_
          rcases ite_or h with ⟨hb161, h⟩ | ⟨hb161, h⟩
          · refine AConf.go sys 0 101 [.kk 3 (notT hb161), .kk 2 (notT hb156), .k (notT hb161), .k (notT hb156), .k (notT hb161)] ?_
            exact AConf.joinN (i := false) h
          · refine AConf.go sys 0 101 [.kk 5 (notF hb161)] ?_
            exact AConf.joinN (i := true) h
      · refine AConf.go sys 0 101 [.kk 5 (notF hb157), .kk 5 (rfl : true = _)] ?_
        exact AConf.joinN (i := true) h
    · refine AConf.go sys 0 101 [.kk 3 hb156] ?_
      rcases ite_or h with ⟨hb162, h⟩ | ⟨hb162, h⟩
      · refine AConf.go sys 0 101 [.kk 3 (notT hb162)] ?_
        rcases ite_or h with ⟨hb163, h⟩ | ⟨hb163, h⟩
        · refine AConf.go sys 0 101 [.kk 3 (notT hb163), .k (notT hb162), .k (notT hb163), .k (notT hb162), .kk 3 (rfl : false = _), .kk 2 (notF hb156), .N, .k (notF hb156), .N] ?_
          exact AConf.joinN (i := (!decide (a0.Text = []))) h
        · obtain ⟨p164, hp165, h⟩ := bind_some h
          refine AConf.go sys 0 101 [.kk 2 (notF hb163), .call (fr4_ValidName_ok hp165), .k (notF hb163), .k (notT hb162), .k (notF hb163), .k (notT hb162)] ?_
          rcases ite_or h with ⟨hb166, h⟩ | ⟨hb166, h⟩
          · refine AConf.go sys 0 101 [.kk 3 (notT hb166), .kk 2 (notF hb156), .k (notT hb166), .k (notF hb156), .k (notT hb166)] ?_
            exact AConf.joinN (i := (!decide (a0.Text = []))) h
          · refine AConf.go sys 0 101 [.kk 5 (notF hb166)] ?_
            exact AConf.joinN (i := true) h
      · refine AConf.go sys 0 101 [.kk 5 (notF hb162), .kk 5 (rfl : true = _)] ?_
        exact AConf.joinN (i := true) h
  · unfold Fr11_ValidAction.j1 at h
    rcases ite_or h with ⟨hb37, h⟩ | ⟨hb37, h⟩
    · obtain rfl := Option.some.inj h
      refine AConf.go sys 0 101 [.k hb37] ?_
      exact AConf.fin
    · refine AConf.go sys 1136 101 [.k hb37] ?_
      refine AConf.join (ι := Bool) (bodyOf Tryz.f86) [0, 1, 1] (fun q76 => Fr11_ValidAction.j3 k a0 q76 = some r) (fun (q76 : Bool) => ([(1, some (.ptr 100 0)), (2, some (pB false)), (80, some (pB q76))], [(100, some (.var (GAction.pvs a0)))])) ?_ fun q76 h => ?_
      · rcases ite_or h with ⟨hb144, h⟩ | ⟨hb144, h⟩
        · refine AConf.go sys 0 101 [.kk 8 (notT hb144), .kk 3 (rfl : false = _)] ?_
          rcases ite_or h with ⟨hb145, h⟩ | ⟨hb145, h⟩
          · refine AConf.go sys 0 101 [.kk 2 (notT hb145), .N, .k (notT hb145), .kk 11 (rfl : false = _), .kk 2 (notT hb145), .N, .k (notT hb145), .kk 7 (rfl : false = _)] ?_
            exact AConf.joinN (i := false) h
          · refine AConf.go sys 0 101 [.kk 2 (notF hb145), .N, .k (notF hb145), .N] ?_
            rcases ite_or h with ⟨hb146, h⟩ | ⟨hb146, h⟩
            · refine AConf.go sys 0 101 [.kk 3 (notT hb146), .N, .k (notT hb146), .kk 4 (rfl : false = _), .kk 2 (notF hb145), .N, .k (notF hb145), .N] ?_
              rcases ite_or h with ⟨hb147, h⟩ | ⟨hb147, h⟩
              · refine AConf.go sys 0 101 [.kk 3 (notT hb147), .N, .k (notT hb147), .N] ?_
                exact AConf.joinN (i := false) h
              · refine AConf.go sys 0 101 [.kk 2 (notF hb147), .l GExpr.cells a0.Where, .k (notF hb147), .N, .k (notF hb147), .N] ?_
                exact AConf.joinN (i := (decide (0 < (a0.Where.length : Int)))) h
            · refine AConf.go sys 0 101 [.kk 2 (notF hb146), .l GSet.cells a0.Sets, .k (notF hb146), .N, .k (notF hb146), .N] ?_
              rcases ite_or h with ⟨hb148, h⟩ | ⟨hb148, h⟩
              · refine AConf.go sys 0 101 [.kk 7 hb148] ?_
                exact AConf.joinN (i := true) h
              · refine AConf.go sys 0 101 [.kk 3 hb148, .kk 2 (notF hb145), .k hb148, .k (notF hb145), .k hb148] ?_
                rcases ite_or h with ⟨hb149, h⟩ | ⟨hb149, h⟩
                · refine AConf.go sys 0 101 [.kk 3 (notT hb149), .k hb148, .k (notT hb149), .k hb148] ?_
                  exact AConf.joinN (i := false) h
                · refine AConf.go sys 0 101 [.kk 2 (notF hb149), .l GExpr.cells a0.Where, .k (notF hb149), .k hb148, .k (notF hb149), .k hb148] ?_
                  exact AConf.joinN (i := (decide (0 < (a0.Where.length : Int)))) h
        · refine AConf.go sys 0 101 [.kk 2 (notF hb144), .l (cL GExpr.cells) a0.Rows, .kk 2 (notF hb144), .l GQuery.cells a0.Query, .kk 2 (notF hb144)] ?_
          rcases ite_or h with ⟨hb150, h⟩ | ⟨hb150, h⟩
          · refine AConf.go sys 0 101 [.kk 7 hb150, .kk 7 (rfl : true = _)] ?_
            exact AConf.joinN (i := true) h
          · refine AConf.go sys 0 101 [.kk 3 hb150] ?_
            rcases ite_or h with ⟨hb151, h⟩ | ⟨hb151, h⟩
            · refine AConf.go sys 0 101 [.kk 2 (notT hb151), .k hb150, .k (notT hb151), .k hb150, .kk 3 (rfl : false = _), .k hb150, .N, .k hb150, .kk 3 (rfl : false = _), .kk 2 (notT hb151), .N, .k (notT hb151), .kk 7 (rfl : false = _)] ?_
              exact AConf.joinN (i := false) h
            · refine AConf.go sys 0 101 [.kk 2 (notF hb151), .k hb150, .k (notF hb151), .k hb150] ?_
              rcases ite_or h with ⟨hb152, h⟩ | ⟨hb152, h⟩
              · refine AConf.go sys 0 101 [.kk 3 (notT hb152), .k hb150, .k (notT hb152), .k hb150, .kk 3 (rfl : false = _), .kk 2 (notF hb151), .N, .k (notF hb151), .N] ?_
                rcases ite_or h with ⟨hb153, h⟩ | ⟨hb153, h⟩
                · refine AConf.go sys 0 101 [.kk 3 (notT hb153), .N, .k (notT hb153), .N] ?_
                  exact AConf.joinN (i := false) h
                · refine AConf.go sys 0 101 [.kk 2 (notF hb153), .l GExpr.cells a0.Where, .k (notF hb153), .N, .k (notF hb153), .N] ?_
                  exact AConf.joinN (i := (decide (0 < (a0.Where.length : Int)))) h
              · refine AConf.go sys 0 101 [.kk 2 (notF hb152), .l GSet.cells a0.Sets, .k (notF hb152), .k hb150, .k (notF hb152), .k hb150] ?_
                rcases ite_or h with ⟨hb154, h⟩ | ⟨hb154, h⟩
                · refine AConf.go sys 0 101 [.kk 7 hb154] ?_
                  exact AConf.joinN (i := true) h
                · refine AConf.go sys 0 101 [.kk 3 hb154, .kk 2 (notF hb151), .k hb154, .k (notF hb151), .k hb154] ?_
                  rcases ite_or h with ⟨hb155, h⟩ | ⟨hb155, h⟩
                  · refine AConf.go sys 0 101 [.kk 3 (notT hb155), .k hb154, .k (notT hb155), .k hb154] ?_
                    exact AConf.joinN (i := false) h
                  · refine AConf.go sys 0 101 [.kk 2 (notF hb155), .l GExpr.cells a0.Where, .k (notF hb155), .k hb154, .k (notF hb155), .k hb154] ?_
                    exact AConf.joinN (i := (decide (0 < (a0.Where.length : Int)))) h
      · unfold Fr11_ValidAction.j3 at h
        rcases ite_or h with ⟨hb77, h⟩ | ⟨hb77, h⟩
        · obtain rfl := Option.some.inj h
          refine AConf.go sys 0 101 [.k hb77] ?_
          exact AConf.fin
        · refine AConf.go sys 8959 101 [.k hb77] ?_
          refine AConf.join (ι := Bool) (bodyOf Tryz.f86) [0, 1, 1, 1] (fun q89 => Fr11_ValidAction.j5 k a0 q89 = some r) (fun (q89 : Bool) => ([(1, some (.ptr 100 0)), (2, some (pB false)), (90, some (pB q89))], [(100, some (.var (GAction.pvs a0)))])) ?_ fun q89 h => ?_
          · refine AConf.go sys 0 101 [.l GExpr.cells a0.Where] ?_
            rcases ite_or h with ⟨hb141, h⟩ | ⟨hb141, h⟩
            · refine AConf.go sys 0 101 [.kk 4 hb141] ?_
              exact AConf.joinN (i := true) h
            · obtain ⟨p142, hp143, h⟩ := bind_some h
              refine AConf.go sys 0 101 [.kk 2 hb141, .call (fr11_all_ok hp143), .kk 1 hb141] ?_
              exact AConf.joinN (i := (!p142)) h
          · unfold Fr11_ValidAction.j5 at h
            rcases ite_or h with ⟨hb90, h⟩ | ⟨hb90, h⟩
            · obtain rfl := Option.some.inj h
              refine AConf.go sys 0 101 [.k hb90] ?_
              exact AConf.fin
            · refine AConf.go sys 0 101 [.k hb90] ?_
              rcases ite_or h with ⟨hb116, h⟩ | ⟨hb116, h⟩
              · obtain ⟨p117, hp118, h⟩ := bind_some h
                obtain rfl := Option.some.inj h
                refine AConf.go sys 0 101 [.k hb116, .call (fr11_validInsert_ok hp118)] ?_
                exact AConf.fin
              · refine AConf.go sys 0 101 [.k hb116] ?_
                rcases ite_or h with ⟨hb119, h⟩ | ⟨hb119, h⟩
                · refine AConf.go sys 5628 101 [.k hb119] ?_
                  refine AConf.join (ι := Bool) (bodyOf Tryz.f86) [4, 1, 5, 1, 3, 1, 0, 1, 1, 1, 1] (fun q124 => Fr11_ValidAction.j8 q124 = some r) (fun (q124 : Bool) => ([(2, some (pB q124))], [])) ?_ fun q124 h => ?_
                  · refine AConf.go sys 0 101 [.l GSet.cells a0.Sets] ?_
                    rcases ite_or h with ⟨hb125, h⟩ | ⟨hb125, h⟩
                    · refine AConf.go sys 0 101 [.kk 2 hb125, .l GSet.cells a0.Sets, .kk 1 hb125] ?_
                      rcases ite_or h with ⟨hb126, h⟩ | ⟨hb126, h⟩
                      · obtain ⟨p127, hp128, h⟩ := bind_some h
                        refine AConf.go sys 0 101 [.kk 2 hb126, .call (fr11_validSets_ok hp128), .k hb126] ?_
                        exact AConf.joinN (i := p127) h
                      · refine AConf.go sys 0 101 [.kk 3 hb126] ?_
                        exact AConf.joinN (i := false) h
                    · refine AConf.go sys 0 101 [.kk 4 hb125, .kk 3 (rfl : false = _)] ?_
                      exact AConf.joinN (i := false) h
                  · unfold Fr11_ValidAction.j8 at h
                    obtain rfl := Option.some.inj h
                    refine AConf.go sys 0 101 [] ?_
                    exact AConf.fin
                · refine AConf.go sys 0 101 [.k hb119] ?_
                  rcases ite_or h with ⟨hb129, h⟩ | ⟨hb129, h⟩
                  · obtain rfl := Option.some.inj h
                    refine AConf.go sys 0 101 [.k hb129] ?_
                    exact AConf.fin
                  · refine AConf.go sys 0 101 [.k hb129] ?_
                    rcases ite_or h with ⟨hb130, h⟩ | ⟨hb130, h⟩
                    · obtain ⟨p131, hp132, h⟩ := bind_some h
                      obtain rfl := Option.some.inj h
                      refine AConf.go sys 0 101 [.k hb130, .call (fr1_Valid_ok hp132)] ?_
                      exact AConf.fin
                    · refine AConf.go sys 0 101 [.k hb130] ?_
                      rcases ite_or h with ⟨hb133, h⟩ | ⟨hb133, h⟩
                      · refine AConf.go sys 9676 101 [.k hb133] ?_
                        refine AConf.join (ι := Bool) (bodyOf Tryz.f86) [4, 1, 5, 1, 5, 1, 5, 1, 5, 1, 3, 1, 0, 1, 1, 1, 1] (fun q137 => Fr11_ValidAction.j9 q137 = some r) (fun (q137 : Bool) => ([(2, some (pB q137))], [])) ?_ fun q137 h => ?_
                        · refine AConf.go sys 0 101 [.l GSet.cells a0.Sets] ?_
                          rcases ite_or h with ⟨hb138, h⟩ | ⟨hb138, h⟩
                          · obtain ⟨p139, hp140, h⟩ := bind_some h
                            refine AConf.go sys 0 101 [.kk 2 hb138, .call (fr11_validSets_ok hp140), .k hb138] ?_
                            exact AConf.joinN (i := p139) h
                          · refine AConf.go sys 0 101 [.kk 3 hb138] ?_
                            exact AConf.joinN (i := false) h
                        · unfold Fr11_ValidAction.j9 at h
                          obtain rfl := Option.some.inj h
                          refine AConf.go sys 0 101 [] ?_
                          exact AConf.fin
                      · obtain rfl := Option.some.inj h
                        refine AConf.go sys 0 101 [.k hb133] ?_
                        exact AConf.fin

-- triggerstore/triggerstoreref16.sound
def Fr16_sound.j0 (q5 : Bool) : Option Bool :=
  (some q5)
def Fr16_sound (k : Nat) (a0 : GAction) : Option Bool :=
  (if decide (1 ≤ a0.Kind) = true then (if decide (a0.Kind ≤ 3) = true then ((Fr11_ValidAction k a0).bind fun p8 => (Fr16_sound.j0 p8)) else (Fr16_sound.j0 false)) else (Fr16_sound.j0 false))
theorem fr16_sound_ok {k : Nat} {a0 : GAction} {r : Bool} (h : Fr16_sound k a0 = some r) :
    ACalls Tryz.prog gl 120 [(.agg (GAction.pvs a0))] [] (pB r) [] [] := by
  refine ACalls.enter sys Tryz.func120 fun w F ν => ?_
  unfold Fr16_sound at h
  refine AConf.go sys 8001 100 [] ?_
  refine AConf.join (ι := Bool) (bodyOf Tryz.f120) [1] (fun q5 => Fr16_sound.j0 q5 = some r) (fun (q5 : Bool) => ([(2, some (pB q5))], [])) ?_ fun q5 h => ?_
  · rcases ite_or h with ⟨hb6, h⟩ | ⟨hb6, h⟩
    · refine AConf.go sys 0 101 [.kk 3 hb6] ?_
      rcases ite_or h with ⟨hb7, h⟩ | ⟨hb7, h⟩
      · obtain ⟨p8, hp9, h⟩ := bind_some h
        refine AConf.go sys 0 101 [.kk 1 hb7, .call (fr11_ValidAction_ok hp9), .k hb7] ?_
        exact AConf.joinN (i := p8) h
      · refine AConf.go sys 0 101 [.kk 2 hb7] ?_
        exact AConf.joinN (i := false) h
    · refine AConf.go sys 0 101 [.kk 3 hb6, .kk 2 (rfl : false = _)] ?_
      exact AConf.joinN (i := false) h
  · unfold Fr16_sound.j0 at h
    obtain rfl := Option.some.inj h
    refine AConf.go sys 0 101 [] ?_
    exact AConf.fin

-- triggerstore/triggerstoreref14.Types
def Fr14_Types.j0 (k : Nat) (a0 : GQuery) (a2 : List GTable) (p5 : List GFrame) (q60 : List Int) : Option ((List Int) × Int) :=
  ((Fr14_Condition k a0.Where p5 a2).bind fun p64 => (if decide (p64 = 0) = true then (some (q60, 0)) else (some ([], p64))))
def Fr14_Types.b2 (x83 : GColumn) (i82 : Nat) (s81 : List Int) : Option (Go.Ab.Step ((List Int) × Int) (List Int)) :=
  ((app 8 s81 ([x83.Typ])).bind fun l85 => (some (.cont l85)))
def Fr14_Types.b3 (k : Nat) (a2 : List GTable) (p5 : List GFrame) (x111 : GExpr) (i110 : Nat) (s109 : List Int) : Option (Go.Ab.Step ((List Int) × Int) (List Int)) :=
  ((Fr14_Type k x111 p5 a2).bind fun p113 => (if decide (p113.2 = 0) = true then ((app 8 s109 ([p113.1])).bind fun l117 => (some (.cont l117))) else (some (.ret ([], p113.2)))))
def Fr14_Types (k : Nat) (a0 : GQuery) (a1 : List GFrame) (a2 : List GTable) : Option ((List Int) × Int) :=
  ((Fr14_Source k a2 a0.From).bind fun p1 => (if p1.2 = true then ((Fr14_Inside k a1 p1.1 []).bind fun p5 => (if a0.Star = true then ((loopL (Fr14_Types.b2) p1.1.Columns 0 ([] : List Int)).bind fun out => Out.el out (fun r0 => some r0) fun s87 => (Fr14_Types.j0 k a0 a2 p5 s87)) else ((loopL (Fr14_Types.b3 k a2 p5) a0.Items 0 ([] : List Int)).bind fun out => Out.el out (fun r0 => some r0) fun s119 => (Fr14_Types.j0 k a0 a2 p5 s119)))) else (some ([], 3))))
theorem fr14_Types_ok {k : Nat} {a0 : GQuery} {a1 : List GFrame} {a2 : List GTable} {r : (List Int) × Int} (h : Fr14_Types k a0 a1 a2 = some r) :
    ACalls Tryz.prog gl 130 [(.agg (GQuery.pvs a0)), (pL GFrame.cells a1), (pL GTable.cells a2)] [] (.tup [(pL cI r.1), (pI r.2)]) [] [] := by
  refine ACalls.enter sys Tryz.func130 fun w F ν => ?_
  unfold Fr14_Types at h
  obtain ⟨p1, hp2, h⟩ := bind_some h
  refine AConf.go sys 0 100 [.call (fr14_Source_ok hp2)] ?_
  rcases ite_or h with ⟨hb4, h⟩ | ⟨hb4, h⟩
  · obtain ⟨p5, hp6, h⟩ := bind_some h
    refine AConf.go sys 3883 102 [.k (notT hb4), .call (fr14_Inside_ok hp6)] ?_
    refine AConf.join (ι := List Int) (bodyOf Tryz.f130) [1, 1, 1, 1, 1] (fun q60 => Fr14_Types.j0 k a0 a2 p5 q60 = some r) (fun (q60 : List Int) => ([(2, some (pL GTable.cells a2)), (3, some (.ptr 100 0)), (6, some pN), (7, some (pI 0)), (10, some (pL GFrame.cells p5)), (11, some (.osl 110))], [(110, some (.arr false 3 1 (q60.map cI))), (100, some (.var (GQuery.pvs a0)))])) ?_ fun q60 h => ?_
    · rcases ite_or h with ⟨hb67, h⟩ | ⟨hb67, h⟩
      · refine AConf.go sys 0 114 [.k hb67, .l GColumn.cells p1.1.Columns, .ownR 10145 false 11 122 3 1] ?_
        refine AConf.range (bodyOf Tryz.f130) [1, 4, 1, 2, 1, 1, 1, 1, 1] (fun (s81 : List Int) => ([(2, some (pL GTable.cells a2)), (3, some (.ptr 100 0)), (6, some pN), (7, some (pI 0)), (10, some (pL GFrame.cells p5)), (11, some (.osl 122)), (34, some (pL GColumn.cells p1.1.Columns)), (35, some (pI (p1.1.Columns.length : Int)))], [(122, some (.arr false 3 1 (s81.map cI))), (100, some (.var (GQuery.pvs a0)))])) (bR 34 GColumn.cells) h (fun _ h => h.symm) (fun s87 h => ?_) (fun i82 x83 s81 o80 hx84 h hrt => ?_)
        · refine AConf.go sys 0 126 [.kp 0 [2, 3, 6, 7, 10, 11] [100, 122], .ren 0 122 110] ?_
          exact AConf.joinN (i := s87) h
        · unfold Fr14_Types.b2 at h
          obtain ⟨l85, hv86, h⟩ := bind_some h
          refine AConf.go sys 0 123 [.e GColumn.cells hx84, .b false cI ([x83.Typ]), .a false (f := cI) (sz := 1) (fun _ => rfl) hv86, .kp 6 [2, 3, 6, 7, 10, 11, 34, 35, 36] [100, 125], .ren 6 125 122] ?_
          exact AConf.rngC h
      · refine AConf.go sys 0 114 [.k hb67, .l GExpr.cells a0.Items, .ownR 10152 false 11 122 3 1] ?_
        refine AConf.range (bodyOf Tryz.f130) [1, 5, 1, 2, 1, 1, 1, 1, 1] (fun (s109 : List Int) => ([(2, some (pL GTable.cells a2)), (3, some (.ptr 100 0)), (6, some pN), (7, some (pI 0)), (10, some (pL GFrame.cells p5)), (11, some (.osl 122)), (47, some (pL GExpr.cells a0.Items)), (48, some (pI (a0.Items.length : Int)))], [(122, some (.arr false 3 1 (s109.map cI))), (100, some (.var (GQuery.pvs a0)))])) (bR 47 GExpr.cells) h (fun _ h => h.symm) (fun s119 h => ?_) (fun i110 x111 s109 o108 hx112 h hrt => ?_)
        · refine AConf.go sys 0 126 [.kp 0 [2, 3, 6, 7, 10, 11] [100, 122], .ren 0 122 110] ?_
          exact AConf.joinN (i := s119) h
        · unfold Fr14_Types.b3 at h
          obtain ⟨p113, hp114, h⟩ := bind_some h
          refine AConf.go sys 0 123 [.er GExpr.cells_eq hx112, .call (fr14_Type_ok hp114)] ?_
          rcases ite_or h with ⟨hb116, h⟩ | ⟨hb116, h⟩
          · obtain ⟨l117, hv118, h⟩ := bind_some h
            refine AConf.go sys 0 124 [.k (notT hb116), .b false cI ([p113.1]), .a false (f := cI) (sz := 1) (fun _ => rfl) hv118, .kp 5 [2, 3, 6, 7, 10, 11, 47, 48, 49] [100, 125], .ren 5 125 122] ?_
            exact AConf.rngC h
          · obtain rfl := Option.some.inj h
            obtain rfl := hrt _ rfl
            refine AConf.go sys 0 124 [.k (notF hb116)] ?_
            refine AConf.rngR ?_
            refine AConf.joinR ?_
            exact AConf.fin
    · unfold Fr14_Types.j0 at h
      obtain ⟨p64, hp65, h⟩ := bind_some h
      refine AConf.go sys 0 114 [.call (fr14_Condition_ok hp65)] ?_
      rcases ite_or h with ⟨hb66, h⟩ | ⟨hb66, h⟩
      · obtain rfl := Option.some.inj h
        refine AConf.go sys 0 114 [.k (notT hb66), .frz 2679 110] ?_
        exact AConf.fin
      · obtain rfl := Option.some.inj h
        refine AConf.go sys 0 114 [.k (notF hb66)] ?_
        exact AConf.fin
  · obtain rfl := Option.some.inj h
    refine AConf.go sys 0 102 [.k (notF hb4)] ?_
    exact AConf.fin

-- triggerstore/triggerstoreref16.checkInsert
def Fr16_checkInsert.b4 (k : Nat) (a1 : GSchema) (a2 : List GFrame) (a3 : List GTable) (x128 : GExpr) (i127 : Nat) (s126 : Unit) : Option (Go.Ab.Step Int Unit) :=
  ((Fr14_Type k x128 a2 a3).bind fun p130 => (if decide (p130.2 = 0) = true then ((idx a1.Columns (i127 : Int)).bind fun x134 => ((Fr14_Assignable k x134.Typ p130.1).bind fun p136 => (if p136 = true then (some (.cont ())) else (some (.ret 5))))) else (some (.ret p130.2))))
def Fr16_checkInsert.b5 (k : Nat) (a1 : GSchema) (a2 : List GFrame) (a3 : List GTable) (x108 : List GExpr) (i107 : Nat) (s106 : Unit) : Option (Go.Ab.Step Int Unit) :=
  (if decide ((x108.length : Int) = (a1.Columns.length : Int)) = true then ((loopL (Fr16_checkInsert.b4 k a1 a2 a3) x108 0 ()).bind fun out => Out.el out (fun r0 => some (.ret r0)) fun _ => (some (.cont ()))) else (some (.ret 5)))
def Fr16_checkInsert.b10 (k : Nat) (a1 : GSchema) (x256 : Int) (i255 : Nat) (s254 : Unit) : Option (Go.Ab.Step Int Unit) :=
  ((idx a1.Columns (i255 : Int)).bind fun x258 => ((Fr14_Assignable k x258.Typ x256).bind fun p260 => (if p260 = true then (some (.cont ())) else (some (.ret 5)))))
def Fr16_checkInsert.b11 (k : Nat) (a1 : GSchema) (a2 : List GFrame) (a3 : List GTable) (x236 : GQuery) (i235 : Nat) (s234 : Unit) : Option (Go.Ab.Step Int Unit) :=
  ((Fr14_Types k x236 a2 a3).bind fun p238 => (if decide (p238.2 = 0) = true then (if decide ((p238.1.length : Int) = (a1.Columns.length : Int)) = true then ((loopL (Fr16_checkInsert.b10 k a1) p238.1 0 ()).bind fun out => Out.el out (fun r0 => some (.ret r0)) fun _ => (some (.cont ()))) else (some (.ret 5))) else (some (.ret p238.2))))
def Fr16_checkInsert (k : Nat) (a0 : GAction) (a1 : GSchema) (a2 : List GFrame) (a3 : List GTable) : Option Int :=
  ((loopL (Fr16_checkInsert.b5 k a1 a2 a3) a0.Rows 0 ()).bind fun out => Out.el out (fun r0 => some r0) fun _ => ((loopL (Fr16_checkInsert.b11 k a1 a2 a3) a0.Query 0 ()).bind fun out => Out.el out (fun r0 => some r0) fun _ => (some 0)))
theorem fr16_checkInsert_ok {k : Nat} {a0 : GAction} {a1 : GSchema} {a2 : List GFrame} {a3 : List GTable} {r : Int} (h : Fr16_checkInsert k a0 a1 a2 a3 = some r) :
    ACalls Tryz.prog gl 121 [(.agg (GAction.pvs a0)), (.agg (GSchema.pvs a1)), (pL GFrame.cells a2), (pL GTable.cells a3)] [] (pI r) [] [] := by
  refine ACalls.enter sys Tryz.func121 fun w F ν => ?_
  unfold Fr16_checkInsert at h
  refine AConf.go sys 0 100 [.l (cL GExpr.cells) a0.Rows] ?_
  refine AConf.range (bodyOf Tryz.f121) [1, 0, 1] (fun (_s : Unit) => ([(2, some (pL GFrame.cells a2)), (3, some (pL GTable.cells a3)), (4, some (.ptr 100 0)), (5, some (.ptr 101 0)), (8, some (pI 0)), (22, some (pL (cL GExpr.cells) a0.Rows)), (23, some (pI (a0.Rows.length : Int)))], [(100, some (.var (GAction.pvs a0))), (101, some (.var (GSchema.pvs a1)))])) (bR 22 (cL GExpr.cells)) h (fun _ h => h.symm) (fun _ h => ?_) (fun i107 x108 _ o105 hx109 h hrt => ?_)
  · refine AConf.go sys 0 106 [.l GQuery.cells a0.Query] ?_
    refine AConf.range (bodyOf Tryz.f121) [1, 0, 1, 1] (fun (_s : Unit) => ([(2, some (pL GFrame.cells a2)), (3, some (pL GTable.cells a3)), (5, some (.ptr 101 0)), (8, some (pI 0)), (63, some (pL GQuery.cells a0.Query)), (64, some (pI (a0.Query.length : Int)))], [(101, some (.var (GSchema.pvs a1)))])) (bR 63 GQuery.cells) h (fun _ h => h.symm) (fun _ h => ?_) (fun i235 x236 _ o233 hx237 h hrt => ?_)
    · obtain rfl := Option.some.inj h
      refine AConf.go sys 0 108 [] ?_
      exact AConf.fin
    · unfold Fr16_checkInsert.b11 at h
      obtain ⟨p238, hp239, h⟩ := bind_some h
      refine AConf.go sys 0 107 [.er GQuery.cells_eq hx237, .call (fr14_Types_ok hp239)] ?_
      rcases ite_or h with ⟨hb241, h⟩ | ⟨hb241, h⟩
      · refine AConf.go sys 0 108 [.k (notT hb241), .l cI p238.1, .l GColumn.cells a1.Columns] ?_
        rcases ite_or h with ⟨hb243, h⟩ | ⟨hb243, h⟩
        · refine AConf.go sys 0 108 [.k (notT hb243), .l cI p238.1] ?_
          refine AConf.range (bodyOf Tryz.f121) [1, 1, 1, 1, 1, 9, 1, 0, 1, 1] (fun (_s : Unit) => ([(2, some (pL GFrame.cells a2)), (3, some (pL GTable.cells a3)), (5, some (.ptr 101 0)), (8, some (pI 0)), (63, some (pL GQuery.cells a0.Query)), (64, some (pI (a0.Query.length : Int))), (65, some (pI (i235 : Int))), (85, some (pL cI p238.1)), (86, some (pI (p238.1.length : Int)))], [(101, some (.var (GSchema.pvs a1)))])) (bR 74 cI) h hrt (fun _ h => ?_) (fun i255 x256 _ o253 hx257 h hrt => ?_)
          · refine AConf.go sys 0 108 [] ?_
            exact AConf.rngC h
          · unfold Fr16_checkInsert.b10 at h
            obtain ⟨x258, hv259, h⟩ := bind_some h
            obtain ⟨p260, hp261, h⟩ := bind_some h
            refine AConf.go sys 0 108 [.e cI hx257, .x GColumn.cells hv259, .call (fr14_Assignable_ok hp261)] ?_
            rcases ite_or h with ⟨hb262, h⟩ | ⟨hb262, h⟩
            · refine AConf.go sys 0 108 [.k (notT hb262)] ?_
              exact AConf.rngC h
            · obtain rfl := Option.some.inj h
              obtain rfl := hrt _ rfl
              refine AConf.go sys 0 108 [.k (notF hb262)] ?_
              refine AConf.rngR ?_
              refine AConf.rngR ?_
              exact AConf.fin
        · obtain rfl := Option.some.inj h
          obtain rfl := hrt _ rfl
          refine AConf.go sys 0 108 [.k (notF hb243)] ?_
          refine AConf.rngR ?_
          exact AConf.fin
      · obtain rfl := Option.some.inj h
        obtain rfl := hrt _ rfl
        refine AConf.go sys 0 108 [.k (notF hb241)] ?_
        refine AConf.rngR ?_
        exact AConf.fin
  · unfold Fr16_checkInsert.b5 at h
    refine AConf.go sys 0 104 [.e (cL GExpr.cells) hx109, .l GExpr.cells x108, .l GColumn.cells a1.Columns] ?_
    rcases ite_or h with ⟨hb111, h⟩ | ⟨hb111, h⟩
    · refine AConf.go sys 0 104 [.k (notT hb111), .l GExpr.cells x108] ?_
      refine AConf.range (bodyOf Tryz.f121) [1, 1, 1, 9, 1, 0, 1] (fun (_s : Unit) => ([(2, some (pL GFrame.cells a2)), (3, some (pL GTable.cells a3)), (4, some (.ptr 100 0)), (5, some (.ptr 101 0)), (8, some (pI 0)), (22, some (pL (cL GExpr.cells) a0.Rows)), (23, some (pI (a0.Rows.length : Int))), (24, some (pI (i107 : Int))), (34, some (pL GExpr.cells x108)), (35, some (pI (x108.length : Int)))], [(100, some (.var (GAction.pvs a0))), (101, some (.var (GSchema.pvs a1)))])) (bR 27 GExpr.cells) h hrt (fun _ h => ?_) (fun i127 x128 _ o125 hx129 h hrt => ?_)
      · refine AConf.go sys 0 106 [] ?_
        exact AConf.rngC h
      · unfold Fr16_checkInsert.b4 at h
        obtain ⟨p130, hp131, h⟩ := bind_some h
        refine AConf.go sys 0 105 [.er GExpr.cells_eq hx129, .call (fr14_Type_ok hp131)] ?_
        rcases ite_or h with ⟨hb133, h⟩ | ⟨hb133, h⟩
        · obtain ⟨x134, hv135, h⟩ := bind_some h
          obtain ⟨p136, hp137, h⟩ := bind_some h
          refine AConf.go sys 0 106 [.k (notT hb133), .x GColumn.cells hv135, .call (fr14_Assignable_ok hp137)] ?_
          rcases ite_or h with ⟨hb138, h⟩ | ⟨hb138, h⟩
          · refine AConf.go sys 0 106 [.k (notT hb138)] ?_
            exact AConf.rngC h
          · obtain rfl := Option.some.inj h
            obtain rfl := hrt _ rfl
            refine AConf.go sys 0 106 [.k (notF hb138)] ?_
            refine AConf.rngR ?_
            refine AConf.rngR ?_
            exact AConf.fin
        · obtain rfl := Option.some.inj h
          obtain rfl := hrt _ rfl
          refine AConf.go sys 0 106 [.k (notF hb133)] ?_
          refine AConf.rngR ?_
          refine AConf.rngR ?_
          exact AConf.fin
    · obtain rfl := Option.some.inj h
      obtain rfl := hrt _ rfl
      refine AConf.go sys 0 104 [.k (notF hb111)] ?_
      refine AConf.rngR ?_
      exact AConf.fin

-- triggerstore/triggerstoreref16.Check
def Fr16_Check.b1 (k : Nat) (a2 : List GTable) (p7 : GSchema × Bool) (p17 : List GFrame) (x75 : GSet) (i74 : Nat) (s73 : Unit) : Option (Go.Ab.Step Int Unit) :=
  ((Fr4_Find k p7.1 x75.Column).bind fun p77 => (if decide (p77 < 0) = true then (some (.ret 3)) else ((Fr14_Type k x75.Expr p17 a2).bind fun p81 => (if decide (p81.2 = 0) = true then ((idx p7.1.Columns p77).bind fun x85 => ((Fr14_Assignable k x85.Typ p81.1).bind fun p87 => (if p87 = true then (some (.cont ())) else (some (.ret 5))))) else (some (.ret p81.2))))))
def Fr16_Check (k : Nat) (a0 : GAction) (a1 : List GFrame) (a2 : List GTable) : Option Int :=
  ((Fr16_sound k a0).bind fun p4 => (if p4 = true then ((Fr14_Source k a2 a0.Table).bind fun p7 => (if p7.2 = true then (if decide (a0.Kind = 1) = true then ((Fr16_checkInsert k a0 p7.1 a1 a2).bind fun p15 => (some p15)) else ((Fr14_Inside k a1 p7.1 []).bind fun p17 => ((loopL (Fr16_Check.b1 k a2 p7 p17) a0.Sets 0 ()).bind fun out => Out.el out (fun r0 => some r0) fun _ => ((Fr14_Condition k a0.Where p17 a2).bind fun p91 => (some p91))))) else (some 3))) else (some 17)))
theorem fr16_Check_ok {k : Nat} {a0 : GAction} {a1 : List GFrame} {a2 : List GTable} {r : Int} (h : Fr16_Check k a0 a1 a2 = some r) :
    ACalls Tryz.prog gl 91 [(.agg (GAction.pvs a0)), (pL GFrame.cells a1), (pL GTable.cells a2)] [] (pI r) [] [] := by
  refine ACalls.enter sys Tryz.func91 fun w F ν => ?_
  unfold Fr16_Check at h
  obtain ⟨p4, hp5, h⟩ := bind_some h
  refine AConf.go sys 0 100 [.call (fr16_sound_ok hp5)] ?_
  rcases ite_or h with ⟨hb6, h⟩ | ⟨hb6, h⟩
  · obtain ⟨p7, hp8, h⟩ := bind_some h
    refine AConf.go sys 0 101 [.k (notT hb6), .call (fr14_Source_ok hp8)] ?_
    rcases ite_or h with ⟨hb10, h⟩ | ⟨hb10, h⟩
    · refine AConf.go sys 0 102 [.k (notT hb10)] ?_
      rcases ite_or h with ⟨hb14, h⟩ | ⟨hb14, h⟩
      · obtain ⟨p15, hp16, h⟩ := bind_some h
        obtain rfl := Option.some.inj h
        refine AConf.go sys 0 102 [.k hb14, .call (fr16_checkInsert_ok hp16)] ?_
        exact AConf.fin
      · obtain ⟨p17, hp18, h⟩ := bind_some h
        refine AConf.go sys 0 102 [.k hb14, .call (fr14_Inside_ok hp18), .l GSet.cells a0.Sets] ?_
        refine AConf.range (bodyOf Tryz.f91) [1, 0, 1, 1, 1, 1, 1, 1] (fun (_s : Unit) => ([(2, some (pL GTable.cells a2)), (3, some (.ptr 100 0)), (6, some (pI 0)), (7, some (.ptr 101 0)), (9, some (pL GFrame.cells p17)), (39, some (pL GSet.cells a0.Sets)), (40, some (pI (a0.Sets.length : Int)))], [(100, some (.var (GAction.pvs a0))), (101, some (.var (GSchema.pvs p7.1)))])) (bR 39 GSet.cells) h (fun _ h => h.symm) (fun _ h => ?_) (fun i74 x75 _ o72 hx76 h hrt => ?_)
        · obtain ⟨p91, hp92, h⟩ := bind_some h
          obtain rfl := Option.some.inj h
          refine AConf.go sys 0 104 [.call (fr14_Condition_ok hp92)] ?_
          exact AConf.fin
        · unfold Fr16_Check.b1 at h
          obtain ⟨p77, hp78, h⟩ := bind_some h
          refine AConf.go sys 0 103 [.e GSet.cells hx76, .call (fr4_Find_ok hp78)] ?_
          rcases ite_or h with ⟨hb80, h⟩ | ⟨hb80, h⟩
          · obtain rfl := Option.some.inj h
            obtain rfl := hrt _ rfl
            refine AConf.go sys 0 104 [.k hb80] ?_
            refine AConf.rngR ?_
            exact AConf.fin
          · obtain ⟨p81, hp82, h⟩ := bind_some h
            refine AConf.go sys 0 104 [.k hb80, .call (fr14_Type_ok hp82)] ?_
            rcases ite_or h with ⟨hb84, h⟩ | ⟨hb84, h⟩
            · obtain ⟨x85, hv86, h⟩ := bind_some h
              obtain ⟨p87, hp88, h⟩ := bind_some h
              refine AConf.go sys 0 104 [.k (notT hb84), .x GColumn.cells hv86, .call (fr14_Assignable_ok hp88)] ?_
              rcases ite_or h with ⟨hb89, h⟩ | ⟨hb89, h⟩
              · refine AConf.go sys 0 104 [.k (notT hb89)] ?_
                exact AConf.rngC h
              · obtain rfl := Option.some.inj h
                obtain rfl := hrt _ rfl
                refine AConf.go sys 0 104 [.k (notF hb89)] ?_
                refine AConf.rngR ?_
                exact AConf.fin
            · obtain rfl := Option.some.inj h
              obtain rfl := hrt _ rfl
              refine AConf.go sys 0 104 [.k (notF hb84)] ?_
              refine AConf.rngR ?_
              exact AConf.fin
    · obtain rfl := Option.some.inj h
      refine AConf.go sys 0 102 [.k (notF hb10)] ?_
      exact AConf.fin
  · obtain rfl := Option.some.inj h
    refine AConf.go sys 0 101 [.k (notF hb6)] ?_
    exact AConf.fin

-- triggerstore/triggerstoreref17.checkAction
def Fr17_checkAction (k : Nat) (a0 : GAction) (a1 : GSchema) (a2 : List GFrame) (a3 : List GTable) : Option Int :=
  (if decide (a0.Kind = 4) = true then (some 0) else (if decide (a0.Kind = 5) = true then ((idx a0.Sets 0).bind fun x27 => ((Fr4_Find k a1 x27.Column).bind fun p29 => (if decide (p29 < 0) = true then (some 3) else ((idx a0.Sets 0).bind fun x33 => ((Fr14_Type k x33.Expr a2 a3).bind fun p35 => (if decide (p35.2 = 0) = true then ((idx a1.Columns p29).bind fun x44 => ((Fr14_Assignable k x44.Typ p35.1).bind fun p46 => (if p46 = true then (some 0) else (some 5)))) else (some p35.2))))))) else ((Fr16_Check k a0 a2 a3).bind fun p49 => (some p49))))
theorem fr17_checkAction_ok {k : Nat} {a0 : GAction} {a1 : GSchema} {a2 : List GFrame} {a3 : List GTable} {r : Int} (h : Fr17_checkAction k a0 a1 a2 a3 = some r) :
    ACalls Tryz.prog gl 45 [(.agg (GAction.pvs a0)), (.agg (GSchema.pvs a1)), (pL GFrame.cells a2), (pL GTable.cells a3)] [] (pI r) [] [] := by
  refine ACalls.enter sys Tryz.func45 fun w F ν => ?_
  unfold Fr17_checkAction at h
  rcases ite_or h with ⟨hb25, h⟩ | ⟨hb25, h⟩
  · obtain rfl := Option.some.inj h
    refine AConf.go sys 0 100 [.k hb25] ?_
    exact AConf.fin
  · refine AConf.go sys 0 100 [.k hb25] ?_
    rcases ite_or h with ⟨hb26, h⟩ | ⟨hb26, h⟩
    · obtain ⟨x27, hv28, h⟩ := bind_some h
      obtain ⟨p29, hp30, h⟩ := bind_some h
      refine AConf.go sys 0 102 [.k hb26, .x GSet.cells hv28, .call (fr4_Find_ok hp30)] ?_
      rcases ite_or h with ⟨hb32, h⟩ | ⟨hb32, h⟩
      · obtain rfl := Option.some.inj h
        refine AConf.go sys 0 102 [.k hb32] ?_
        exact AConf.fin
      · obtain ⟨x33, hv34, h⟩ := bind_some h
        obtain ⟨p35, hp36, h⟩ := bind_some h
        refine AConf.go sys 0 102 [.k hb32, .x GSet.cells hv34, .call (fr14_Type_ok hp36)] ?_
        rcases ite_or h with ⟨hb38, h⟩ | ⟨hb38, h⟩
        · obtain ⟨x44, hv45, h⟩ := bind_some h
          obtain ⟨p46, hp47, h⟩ := bind_some h
          refine AConf.go sys 0 102 [.k (notT hb38), .x GColumn.cells hv45, .call (fr14_Assignable_ok hp47)] ?_
          rcases ite_or h with ⟨hb48, h⟩ | ⟨hb48, h⟩
          · obtain rfl := Option.some.inj h
            refine AConf.go sys 0 102 [.k (notT hb48)] ?_
            exact AConf.fin
          · obtain rfl := Option.some.inj h
            refine AConf.go sys 0 102 [.k (notF hb48)] ?_
            exact AConf.fin
        · obtain rfl := Option.some.inj h
          refine AConf.go sys 0 102 [.k (notF hb38)] ?_
          exact AConf.fin
    · obtain ⟨p49, hp50, h⟩ := bind_some h
      obtain rfl := Option.some.inj h
      refine AConf.go sys 0 102 [.k hb26, .call (fr16_Check_ok hp50)] ?_
      exact AConf.fin

-- triggerstore/triggerstoreref11.names
def Fr11_names.b4 (x80 : List UInt8) (x98 : List UInt8) (i97 : Nat) (s96 : Unit) : Option (Go.Ab.Step Bool Unit) :=
  (if decide (x98 = x80) = true then (some (.ret false)) else (some (.cont ())))
def Fr11_names.b5 (k : Nat) (a0 : List (List UInt8)) (x80 : List UInt8) (i79 : Nat) (s78 : Unit) : Option (Go.Ab.Step Bool Unit) :=
  ((Fr4_ValidName k x80).bind fun p85 => (if p85 = true then ((slc a0 0 (i79 : Int)).bind fun v88 => ((loopL (Fr11_names.b4 x80) v88 0 ()).bind fun out => Out.el out (fun r0 => some (.ret r0)) fun _ => (some (.cont ())))) else (some (.ret false))))
def Fr11_names (k : Nat) (a0 : List (List UInt8)) : Option Bool :=
  (if decide (8 < (a0.length : Int)) = true then (some false) else ((loopL (Fr11_names.b5 k a0) a0 0 ()).bind fun out => Out.el out (fun r0 => some r0) fun _ => (some true)))
theorem fr11_names_ok {k : Nat} {a0 : List (List UInt8)} {r : Bool} (h : Fr11_names k a0 = some r) :
    ACalls Tryz.prog gl 84 [(pL cS a0)] [] (pB r) [] [] := by
  refine ACalls.enter sys Tryz.func84 fun w F ν => ?_
  unfold Fr11_names at h
  refine AConf.go sys 0 100 [.l cS a0] ?_
  rcases ite_or h with ⟨hb2, h⟩ | ⟨hb2, h⟩
  · obtain rfl := Option.some.inj h
    refine AConf.go sys 0 100 [.k hb2] ?_
    exact AConf.fin
  · refine AConf.go sys 0 100 [.k hb2, .l cS a0] ?_
    refine AConf.range (bodyOf Tryz.f84) [1, 0, 1, 1] (fun (_s : Unit) => ([(0, some (pL cS a0)), (2, some (pB false)), (10, some (pL cS a0)), (11, some (pI (a0.length : Int)))], [])) (bR 0 cS) h (fun _ h => h.symm) (fun _ h => ?_) (fun i79 x80 _ o77 hx81 h hrt => ?_)
    · obtain rfl := Option.some.inj h
      refine AConf.go sys 0 100 [] ?_
      exact AConf.fin
    · unfold Fr11_names.b5 at h
      obtain ⟨p85, hp86, h⟩ := bind_some h
      refine AConf.go sys 0 100 [.e cS hx81, .call (fr4_ValidName_ok hp86)] ?_
      rcases ite_or h with ⟨hb87, h⟩ | ⟨hb87, h⟩
      · obtain ⟨v88, hv89, h⟩ := bind_some h
        refine AConf.go sys 0 100 [.k (notT hb87), .s (f := cS) (sz := 1) (fun _ => rfl) hv89, .l cS v88] ?_
        refine AConf.range (bodyOf Tryz.f84) [1, 1, 1, 9, 1, 0, 1, 1] (fun (_s : Unit) => ([(0, some (pL cS a0)), (2, some (pB false)), (4, some (pS x80)), (10, some (pL cS a0)), (11, some (pI (a0.length : Int))), (12, some (pI (i79 : Int))), (22, some (pL cS v88)), (23, some (pI (v88.length : Int)))], [])) (bR 22 cS) h hrt (fun _ h => ?_) (fun i97 x98 _ o95 hx99 h hrt => ?_)
        · refine AConf.go sys 0 100 [] ?_
          exact AConf.rngC h
        · unfold Fr11_names.b4 at h
          refine AConf.go sys 0 100 [.e cS hx99] ?_
          rcases ite_or h with ⟨hb100, h⟩ | ⟨hb100, h⟩
          · obtain rfl := Option.some.inj h
            obtain rfl := hrt _ rfl
            refine AConf.go sys 0 100 [.k hb100] ?_
            refine AConf.rngR ?_
            refine AConf.rngR ?_
            exact AConf.fin
          · refine AConf.go sys 0 100 [.k hb100] ?_
            exact AConf.rngC h
      · obtain rfl := Option.some.inj h
        obtain rfl := hrt _ rfl
        refine AConf.go sys 0 100 [.k (notF hb87)] ?_
        refine AConf.rngR ?_
        exact AConf.fin
end Go.Proofs.YtiojahpkaogigaaGreatDoor
