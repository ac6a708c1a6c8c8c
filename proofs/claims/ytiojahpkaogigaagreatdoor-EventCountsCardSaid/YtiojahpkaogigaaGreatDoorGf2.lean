/- Functions, and that the calls come to them. Conditions: none. -/
import Derived.Test.YtiojahpkaogigaaGreatDoorGf1
set_option maxRecDepth 100000
set_option linter.unusedVariables false
set_option linter.unusedSimpArgs false
namespace Go.Proofs.YtiojahpkaogigaaGreatDoor
open Go Go.Ab
-- triggerstore/triggerstoreref11.ValidTrigger
def Fr11_ValidTrigger.j7 (q164 : Bool) : Option (Go.Ab.Step Bool Unit) :=
  (if q164 = true then (some (.ret false)) else (some (.cont ())))
def Fr11_ValidTrigger.b1 (k : Nat) (x155 : GRank) (i154 : Nat) (s153 : Unit) : Option (Go.Ab.Step Bool Unit) :=
  ((Fr4_ValidName k x155.Table).bind fun p166 => (if p166 = true then ((Fr4_ValidName k x155.Column).bind fun p169 => (if p169 = true then (if decide (x155.Low = (-9223372036854775808)) = true then (Fr11_ValidTrigger.j7 true) else (Fr11_ValidTrigger.j7 (decide (x155.High = (-9223372036854775808))))) else (Fr11_ValidTrigger.j7 true))) else (Fr11_ValidTrigger.j7 true)))
def Fr11_ValidTrigger.j11 (q269 : Bool) : Option (Go.Ab.Step Bool Unit) :=
  (if q269 = true then (some (.ret false)) else (some (.cont ())))
def Fr11_ValidTrigger.b3 (k : Nat) (a0 : GTrigger) (x257 : GAction) (i256 : Nat) (s255 : Unit) : Option (Go.Ab.Step Bool Unit) :=
  ((Fr11_ValidAction k x257).bind fun p271 => (if p271 = true then (if a0.Before = true then (if decide (x257.Kind = 4) = true then (if decide (x257.Kind = 5) = true then (if a0.EachRow = true then (Fr11_ValidTrigger.j11 (decide (a0.Event = 3))) else (Fr11_ValidTrigger.j11 true)) else (Fr11_ValidTrigger.j11 false)) else (if decide (x257.Kind = 5) = true then (if a0.EachRow = true then (Fr11_ValidTrigger.j11 (decide (a0.Event = 3))) else (Fr11_ValidTrigger.j11 true)) else (Fr11_ValidTrigger.j11 true))) else (if decide (x257.Kind = 5) = true then (Fr11_ValidTrigger.j11 true) else (Fr11_ValidTrigger.j11 false))) else (Fr11_ValidTrigger.j11 true)))
def Fr11_ValidTrigger.j12 (q283 : Bool) : Option Bool :=
  (some q283)
def Fr11_ValidTrigger.j3 (k : Nat) (a0 : GTrigger) (q88 : Bool) : Option Bool :=
  (if q88 = true then (some false) else ((loopL (Fr11_ValidTrigger.b1 k) a0.Rank 0 ()).bind fun out => Out.el out (fun r0 => some r0) fun _ => ((loopL (Fr11_ValidTrigger.b3 k a0) a0.Actions 0 ()).bind fun out => Out.el out (fun r0 => some r0) fun _ => (if decide (1 ≤ (a0.Actions.length : Int)) = true then (Fr11_ValidTrigger.j12 (decide ((a0.Actions.length : Int) ≤ 4))) else (Fr11_ValidTrigger.j12 false)))))
def Fr11_ValidTrigger.j1 (k : Nat) (a0 : GTrigger) (q30 : Bool) : Option Bool :=
  (if q30 = true then (some false) else ((Fr11_names k a0.Of).bind fun p285 => (if p285 = true then ((Fr11_names k a0.Precedes).bind fun p288 => (if p288 = true then ((Fr11_names k a0.Follows).bind fun p291 => (if p291 = true then (if decide (1 < (a0.Rank.length : Int)) = true then (Fr11_ValidTrigger.j3 k a0 true) else (if a0.Before = true then (if decide (0 < (a0.Rank.length : Int)) = true then (Fr11_ValidTrigger.j3 k a0 true) else (if decide (1 < (a0.When.length : Int)) = true then (Fr11_ValidTrigger.j3 k a0 true) else ((Fr11_all k a0.When).bind fun p298 => (Fr11_ValidTrigger.j3 k a0 (!p298))))) else (if decide (1 < (a0.When.length : Int)) = true then (Fr11_ValidTrigger.j3 k a0 true) else ((Fr11_all k a0.When).bind fun p301 => (Fr11_ValidTrigger.j3 k a0 (!p301)))))) else (Fr11_ValidTrigger.j3 k a0 true))) else (Fr11_ValidTrigger.j3 k a0 true))) else (Fr11_ValidTrigger.j3 k a0 true))))
def Fr11_ValidTrigger (k : Nat) (a0 : GTrigger) : Option Bool :=
  ((Fr4_ValidName k a0.Name).bind fun p303 => (if p303 = true then ((Fr4_ValidName k a0.Table).bind fun p306 => (if p306 = true then (if decide (a0.Event < 1) = true then (Fr11_ValidTrigger.j1 k a0 true) else (if decide (3 < a0.Event) = true then (Fr11_ValidTrigger.j1 k a0 true) else (if decide (a0.Event = 2) = true then (Fr11_ValidTrigger.j1 k a0 false) else (Fr11_ValidTrigger.j1 k a0 (decide (0 < (a0.Of.length : Int))))))) else (Fr11_ValidTrigger.j1 k a0 true))) else (Fr11_ValidTrigger.j1 k a0 true)))
theorem fr11_ValidTrigger_ok {k : Nat} {a0 : GTrigger} {r : Bool} (h : Fr11_ValidTrigger k a0 = some r) :
    ACalls Tryz.prog gl 39 [(.agg (GTrigger.pvs a0))] [] (pB r) [] [] := by
  refine ACalls.enter sys Tryz.func39 fun w F ν => ?_
  unfold Fr11_ValidTrigger at h
  refine AConf.go sys 7142 100 [] ?_
  refine AConf.join (ι := Bool) (bodyOf Tryz.f39) [0, 1] (fun q30 => Fr11_ValidTrigger.j1 k a0 q30 = some r) (fun (q30 : Bool) => ([(1, some (.ptr 100 0)), (2, some (pB false)), (38, some (pB q30))], [(100, some (.var (GTrigger.pvs a0)))])) ?_ fun q30 h => ?_
  · obtain ⟨p303, hp304, h⟩ := bind_some h
    refine AConf.go sys 0 105 [.call (fr4_ValidName_ok hp304)] ?_
    rcases ite_or h with ⟨hb305, h⟩ | ⟨hb305, h⟩
    · obtain ⟨p306, hp307, h⟩ := bind_some h
      refine AConf.go sys 0 105 [.kk 2 (notT hb305), .call (fr4_ValidName_ok hp307), .kk 1 (notT hb305)] ?_
      rcases ite_or h with ⟨hb308, h⟩ | ⟨hb308, h⟩
      · refine AConf.go sys 0 105 [.kk 3 (notT hb308)] ?_
        rcases ite_or h with ⟨hb309, h⟩ | ⟨hb309, h⟩
        · refine AConf.go sys 0 105 [.kk 3 hb309, .kk 5 (rfl : true = _)] ?_
          exact AConf.joinN (i := true) h
        · refine AConf.go sys 0 105 [.kk 3 hb309] ?_
          rcases ite_or h with ⟨hb310, h⟩ | ⟨hb310, h⟩
          · refine AConf.go sys 0 105 [.kk 5 hb310] ?_
            exact AConf.joinN (i := true) h
          · refine AConf.go sys 0 105 [.kk 3 hb310] ?_
            rcases ite_or h with ⟨hb311, h⟩ | ⟨hb311, h⟩
            · refine AConf.go sys 0 105 [.kk 3 (notT hb311), .k hb310, .k (notT hb311), .k hb310] ?_
              exact AConf.joinN (i := false) h
            · refine AConf.go sys 0 105 [.kk 2 (notF hb311), .l cS a0.Of, .k (notF hb311), .k hb310, .k (notF hb311), .k hb310] ?_
              exact AConf.joinN (i := (decide (0 < (a0.Of.length : Int)))) h
      · refine AConf.go sys 0 105 [.kk 3 (notF hb308), .kk 9 (rfl : true = _)] ?_
        exact AConf.joinN (i := true) h
    · refine AConf.go sys 0 105 [.kk 4 (notF hb305), .kk 13 (rfl : true = _)] ?_
      exact AConf.joinN (i := true) h
  · unfold Fr11_ValidTrigger.j1 at h
    rcases ite_or h with ⟨hb31, h⟩ | ⟨hb31, h⟩
    · obtain rfl := Option.some.inj h
      refine AConf.go sys 0 101 [.k hb31] ?_
      exact AConf.fin
    · refine AConf.go sys 1136 101 [.k hb31] ?_
      refine AConf.join (ι := Bool) (bodyOf Tryz.f39) [0, 1, 1] (fun q88 => Fr11_ValidTrigger.j3 k a0 q88 = some r) (fun (q88 : Bool) => ([(1, some (.ptr 100 0)), (2, some (pB false)), (82, some (pB q88))], [(100, some (.var (GTrigger.pvs a0)))])) ?_ fun q88 h => ?_
      · obtain ⟨p285, hp286, h⟩ := bind_some h
        refine AConf.go sys 0 105 [.call (fr11_names_ok hp286)] ?_
        rcases ite_or h with ⟨hb287, h⟩ | ⟨hb287, h⟩
        · obtain ⟨p288, hp289, h⟩ := bind_some h
          refine AConf.go sys 0 105 [.kk 2 (notT hb287), .call (fr11_names_ok hp289), .kk 1 (notT hb287)] ?_
          rcases ite_or h with ⟨hb290, h⟩ | ⟨hb290, h⟩
          · obtain ⟨p291, hp292, h⟩ := bind_some h
            refine AConf.go sys 0 105 [.kk 2 (notT hb290), .call (fr11_names_ok hp292), .kk 1 (notT hb290)] ?_
            rcases ite_or h with ⟨hb293, h⟩ | ⟨hb293, h⟩
            · refine AConf.go sys 0 105 [.kk 2 (notT hb293), .l GRank.cells a0.Rank, .kk 1 (notT hb293)] ?_
              rcases ite_or h with ⟨hb294, h⟩ | ⟨hb294, h⟩
              · refine AConf.go sys 0 105 [.kk 4 hb294, .kk 9 (rfl : true = _)] ?_
                exact AConf.joinN (i := true) h
              · refine AConf.go sys 0 105 [.kk 2 hb294] ?_
                rcases ite_or h with ⟨hb295, h⟩ | ⟨hb295, h⟩
                · refine AConf.go sys 0 105 [.kk 2 hb295, .l GRank.cells a0.Rank, .k hb295, .k hb294, .k hb295, .k hb294] ?_
                  rcases ite_or h with ⟨hb296, h⟩ | ⟨hb296, h⟩
                  · refine AConf.go sys 0 105 [.kk 4 hb296, .kk 4 (rfl : true = _)] ?_
                    exact AConf.joinN (i := true) h
                  · refine AConf.go sys 0 105 [.kk 2 hb296, .l GExpr.cells a0.When, .kk 1 hb296] ?_
                    rcases ite_or h with ⟨hb297, h⟩ | ⟨hb297, h⟩
                    · refine AConf.go sys 0 105 [.kk 4 hb297] ?_
                      exact AConf.joinN (i := true) h
                    · obtain ⟨p298, hp299, h⟩ := bind_some h
                      refine AConf.go sys 0 105 [.kk 2 hb297, .call (fr11_all_ok hp299), .kk 1 hb297] ?_
                      exact AConf.joinN (i := (!p298)) h
                · refine AConf.go sys 0 105 [.kk 3 hb295, .k hb294, .k hb295, .k hb294, .kk 2 (rfl : false = _), .l GExpr.cells a0.When, .kk 1 (rfl : false = _)] ?_
                  rcases ite_or h with ⟨hb300, h⟩ | ⟨hb300, h⟩
                  · refine AConf.go sys 0 105 [.kk 4 hb300] ?_
                    exact AConf.joinN (i := true) h
                  · obtain ⟨p301, hp302, h⟩ := bind_some h
                    refine AConf.go sys 0 105 [.kk 2 hb300, .call (fr11_all_ok hp302), .kk 1 hb300] ?_
                    exact AConf.joinN (i := (!p301)) h
            · refine AConf.go sys 0 105 [.kk 4 (notF hb293), .kk 14 (rfl : true = _)] ?_
              exact AConf.joinN (i := true) h
          · refine AConf.go sys 0 105 [.kk 4 (notF hb290), .kk 19 (rfl : true = _)] ?_
            exact AConf.joinN (i := true) h
        · refine AConf.go sys 0 105 [.kk 4 (notF hb287), .kk 24 (rfl : true = _)] ?_
          exact AConf.joinN (i := true) h
      · unfold Fr11_ValidTrigger.j3 at h
        rcases ite_or h with ⟨hb89, h⟩ | ⟨hb89, h⟩
        · obtain rfl := Option.some.inj h
          refine AConf.go sys 0 101 [.k hb89] ?_
          exact AConf.fin
        · refine AConf.go sys 0 101 [.k hb89, .l GRank.cells a0.Rank] ?_
          refine AConf.range (bodyOf Tryz.f39) [1, 0, 1, 1, 1] (fun (_s : Unit) => ([(1, some (.ptr 100 0)), (2, some (pB false)), (84, some (pL GRank.cells a0.Rank)), (85, some (pI (a0.Rank.length : Int)))], [(100, some (.var (GTrigger.pvs a0)))])) (bR 84 GRank.cells) h (fun _ h => h.symm) (fun _ h => ?_) (fun i154 x155 _ o152 hx156 h hrt => ?_)
          · refine AConf.go sys 0 103 [.l GAction.cells a0.Actions] ?_
            refine AConf.range (bodyOf Tryz.f39) [1, 0, 1, 1, 1, 1] (fun (_s : Unit) => ([(1, some (.ptr 100 0)), (2, some (pB false)), (112, some (pL GAction.cells a0.Actions)), (113, some (pI (a0.Actions.length : Int)))], [(100, some (.var (GTrigger.pvs a0)))])) (bR 112 GAction.cells) h (fun _ h => h.symm) (fun _ h => ?_) (fun i256 x257 _ o254 hx258 h hrt => ?_)
            · refine AConf.go sys 3883 105 [] ?_
              refine AConf.join (ι := Bool) (bodyOf Tryz.f39) [1, 1, 1, 1, 1] (fun q283 => Fr11_ValidTrigger.j12 q283 = some r) (fun (q283 : Bool) => ([(2, some (pB q283))], [])) ?_ fun q283 h => ?_
              · refine AConf.go sys 0 105 [.l GAction.cells a0.Actions] ?_
                rcases ite_or h with ⟨hb284, h⟩ | ⟨hb284, h⟩
                · refine AConf.go sys 0 105 [.kk 2 hb284, .l GAction.cells a0.Actions, .kk 1 hb284] ?_
                  exact AConf.joinN (i := (decide ((a0.Actions.length : Int) ≤ 4))) h
                · refine AConf.go sys 0 105 [.kk 4 hb284] ?_
                  exact AConf.joinN (i := false) h
              · unfold Fr11_ValidTrigger.j12 at h
                obtain rfl := Option.some.inj h
                refine AConf.go sys 0 105 [] ?_
                exact AConf.fin
            · unfold Fr11_ValidTrigger.b3 at h
              refine AConf.go sys 7772 104 [.e GAction.cells hx258] ?_
              refine AConf.join (ι := Bool) (bodyOf Tryz.f39) [1, 1, 9, 1, 0, 1, 1, 1, 1] (fun q269 => Fr11_ValidTrigger.j11 q269 = some o254) (fun (q269 : Bool) => ([(1, some (.ptr 100 0)), (2, some (pB false)), (112, some (pL GAction.cells a0.Actions)), (113, some (pI (a0.Actions.length : Int))), (114, some (pI (i256 : Int))), (154, some (pB q269))], [(100, some (.var (GTrigger.pvs a0)))])) ?_ fun q269 h => ?_
              · obtain ⟨p271, hp272, h⟩ := bind_some h
                refine AConf.go sys 0 105 [.call (fr11_ValidAction_ok hp272)] ?_
                rcases ite_or h with ⟨hb273, h⟩ | ⟨hb273, h⟩
                · refine AConf.go sys 0 105 [.kk 2 (notT hb273)] ?_
                  rcases ite_or h with ⟨hb274, h⟩ | ⟨hb274, h⟩
                  · refine AConf.go sys 0 105 [.kk 2 hb274, .k (notT hb273), .k hb274, .k (notT hb273)] ?_
                    rcases ite_or h with ⟨hb275, h⟩ | ⟨hb275, h⟩
                    · refine AConf.go sys 0 105 [.kk 1 (notT hb275), .k (notT hb273), .k (notT hb275), .k (notT hb273), .kk 1 (rfl : false = _)] ?_
                      rcases ite_or h with ⟨hb276, h⟩ | ⟨hb276, h⟩
                      · refine AConf.go sys 0 105 [.kk 3 hb276, .kk 2 (notT hb274), .k hb276, .k (notT hb274), .k hb276] ?_
                        rcases ite_or h with ⟨hb277, h⟩ | ⟨hb277, h⟩
                        · refine AConf.go sys 0 105 [.kk 2 (notT hb277), .k hb276, .k (notT hb277), .N, .k hb276, .N] ?_
                          exact AConf.joinN (i := (decide (a0.Event = 3))) h
                        · refine AConf.go sys 0 105 [.kk 2 (notF hb277), .k hb276, .k (notF hb277), .N, .k hb276, .N] ?_
                          exact AConf.joinN (i := true) h
                      · refine AConf.go sys 0 105 [.kk 6 hb276, .N, .k hb276, .N] ?_
                        exact AConf.joinN (i := false) h
                    · refine AConf.go sys 0 105 [.kk 1 (notF hb275), .k (notT hb273), .k (notF hb275), .k (notT hb273)] ?_
                      rcases ite_or h with ⟨hb278, h⟩ | ⟨hb278, h⟩
                      · refine AConf.go sys 0 105 [.kk 1 (notT hb278), .kk 3 hb278, .kk 2 (notT hb274), .k hb278, .k (notT hb274), .k hb278] ?_
                        rcases ite_or h with ⟨hb279, h⟩ | ⟨hb279, h⟩
                        · refine AConf.go sys 0 105 [.kk 2 (notT hb279), .k hb278, .k (notT hb279), .k (notT hb278), .k hb278, .k (notT hb278)] ?_
                          exact AConf.joinN (i := (decide (a0.Event = 3))) h
                        · refine AConf.go sys 0 105 [.kk 2 (notF hb279), .k hb278, .k (notF hb279), .k (notT hb278), .k hb278, .k (notT hb278)] ?_
                          exact AConf.joinN (i := true) h
                      · refine AConf.go sys 0 105 [.kk 3 (notF hb278)] ?_
                        exact AConf.joinN (i := true) h
                  · refine AConf.go sys 0 105 [.kk 2 hb274, .k (notT hb273), .k hb274, .k (notT hb273), .kk 1 (rfl : false = _), .k (notT hb273), .N, .k (notT hb273), .kk 1 (rfl : false = _)] ?_
                    rcases ite_or h with ⟨hb280, h⟩ | ⟨hb280, h⟩
                    · refine AConf.go sys 0 105 [.kk 3 hb280, .kk 2 (notF hb274), .k hb280, .k (notF hb274), .k hb280, .kk 2 (rfl : true = _), .k hb280, .T, .N, .k hb280, .N] ?_
                      exact AConf.joinN (i := true) h
                    · refine AConf.go sys 0 105 [.kk 6 hb280, .N, .k hb280, .N] ?_
                      exact AConf.joinN (i := false) h
                · refine AConf.go sys 0 105 [.kk 6 (notF hb273), .kk 3 (rfl : true = _)] ?_
                  exact AConf.joinN (i := true) h
              · unfold Fr11_ValidTrigger.j11 at h
                rcases ite_or h with ⟨hb270, h⟩ | ⟨hb270, h⟩
                · obtain rfl := Option.some.inj h
                  obtain rfl := hrt _ rfl
                  refine AConf.go sys 0 105 [.k hb270] ?_
                  refine AConf.rngR ?_
                  exact AConf.fin
                · refine AConf.go sys 0 105 [.k hb270] ?_
                  exact AConf.rngC h
          · unfold Fr11_ValidTrigger.b1 at h
            refine AConf.go sys 8501 102 [.e GRank.cells hx156] ?_
            refine AConf.join (ι := Bool) (bodyOf Tryz.f39) [1, 9, 1, 0, 1, 1, 1] (fun q164 => Fr11_ValidTrigger.j7 q164 = some o152) (fun (q164 : Bool) => ([(1, some (.ptr 100 0)), (2, some (pB false)), (84, some (pL GRank.cells a0.Rank)), (85, some (pI (a0.Rank.length : Int))), (86, some (pI (i154 : Int))), (109, some (pB q164))], [(100, some (.var (GTrigger.pvs a0)))])) ?_ fun q164 h => ?_
            · obtain ⟨p166, hp167, h⟩ := bind_some h
              refine AConf.go sys 0 103 [.call (fr4_ValidName_ok hp167)] ?_
              rcases ite_or h with ⟨hb168, h⟩ | ⟨hb168, h⟩
              · obtain ⟨p169, hp170, h⟩ := bind_some h
                refine AConf.go sys 0 103 [.kk 2 (notT hb168), .call (fr4_ValidName_ok hp170), .kk 1 (notT hb168)] ?_
                rcases ite_or h with ⟨hb171, h⟩ | ⟨hb171, h⟩
                · refine AConf.go sys 0 103 [.kk 3 (notT hb171)] ?_
                  rcases ite_or h with ⟨hb172, h⟩ | ⟨hb172, h⟩
                  · refine AConf.go sys 0 103 [.kk 3 hb172] ?_
                    exact AConf.joinN (i := true) h
                  · refine AConf.go sys 0 103 [.kk 3 hb172] ?_
                    exact AConf.joinN (i := (decide (x155.High = (-9223372036854775808)))) h
                · refine AConf.go sys 0 103 [.kk 3 (notF hb171), .kk 3 (rfl : true = _)] ?_
                  exact AConf.joinN (i := true) h
              · refine AConf.go sys 0 103 [.kk 4 (notF hb168), .kk 7 (rfl : true = _)] ?_
                exact AConf.joinN (i := true) h
            · unfold Fr11_ValidTrigger.j7 at h
              rcases ite_or h with ⟨hb165, h⟩ | ⟨hb165, h⟩
              · obtain rfl := Option.some.inj h
                obtain rfl := hrt _ rfl
                refine AConf.go sys 0 103 [.k hb165] ?_
                refine AConf.rngR ?_
                exact AConf.fin
              · refine AConf.go sys 0 103 [.k hb165] ?_
                exact AConf.rngC h

-- triggerstore/triggerstoreref17.Check
def Fr17_Check.b1 (k : Nat) (p7 : GSchema × Bool) (x37 : List UInt8) (i36 : Nat) (s35 : Unit) : Option (Go.Ab.Step Int Unit) :=
  ((Fr4_Find k p7.1 x37).bind fun p39 => (if decide (p39 < 0) = true then (some (.ret 3)) else (some (.cont ()))))
def Fr17_Check.j7 (p107 : GSchema × Bool) (p109 : Int) (q116 : Bool) : Option (Go.Ab.Step Int Unit) :=
  (if q116 = true then (some (.ret 3)) else ((idx p107.1.Columns p109).bind fun x118 => (if decide (x118.Typ = 1) = true then (some (.cont ())) else (some (.ret 5)))))
def Fr17_Check.b3 (k : Nat) (a1 : List GTable) (x105 : GRank) (i104 : Nat) (s103 : Unit) : Option (Go.Ab.Step Int Unit) :=
  ((Fr14_Source k a1 x105.Table).bind fun p107 => ((Fr4_Find k p107.1 x105.Column).bind fun p109 => (if p107.2 = true then (Fr17_Check.j7 p107 p109 (decide (p109 < 0))) else (Fr17_Check.j7 p107 p109 true))))
def Fr17_Check.b5 (k : Nat) (p7 : GSchema × Bool) (p123 : List GFrame) (p127 : List GTable) (x161 : GAction) (i160 : Nat) (s159 : Unit) : Option (Go.Ab.Step Int Unit) :=
  ((Fr17_checkAction k x161 p7.1 p123 p127).bind fun p163 => (if decide (p163 = 0) = true then (some (.cont ())) else (some (.ret p163))))
def Fr17_Check (k : Nat) (a0 : GTrigger) (a1 : List GTable) : Option Int :=
  ((Fr11_ValidTrigger k a0).bind fun p4 => (if p4 = true then ((Fr14_Source k a1 a0.Table).bind fun p7 => (if p7.2 = true then ((loopL (Fr17_Check.b1 k p7) a0.Of 0 ()).bind fun out => Out.el out (fun r0 => some r0) fun _ => ((loopL (Fr17_Check.b3 k a1) a0.Rank 0 ()).bind fun out => Out.el out (fun r0 => some r0) fun _ => ((Fr17_Frames k a0 p7.1 [] []).bind fun p123 => ((Fr17_Transitions k a0 p7.1 (GDelta.mk [] [] [] [])).bind fun p125 => ((Fr17_All k a1 p125).bind fun p127 => ((Fr14_Condition k a0.When p123 p127).bind fun p132 => (if decide (p132 = 0) = true then ((loopL (Fr17_Check.b5 k p7 p123 p127) a0.Actions 0 ()).bind fun out => Out.el out (fun r0 => some r0) fun _ => (some 0)) else (some p132)))))))) else (some 3))) else (some 17)))
theorem fr17_Check_ok {k : Nat} {a0 : GTrigger} {a1 : List GTable} {r : Int} (h : Fr17_Check k a0 a1 = some r) :
    ACalls Tryz.prog gl 14 [(.agg (GTrigger.pvs a0)), (pL GTable.cells a1)] [] (pI r) [] [] := by
  refine ACalls.enter sys Tryz.func14 fun w F ν => ?_
  unfold Fr17_Check at h
  obtain ⟨p4, hp5, h⟩ := bind_some h
  refine AConf.go sys 0 100 [.call (fr11_ValidTrigger_ok hp5)] ?_
  rcases ite_or h with ⟨hb6, h⟩ | ⟨hb6, h⟩
  · obtain ⟨p7, hp8, h⟩ := bind_some h
    refine AConf.go sys 0 101 [.k (notT hb6), .call (fr14_Source_ok hp8)] ?_
    rcases ite_or h with ⟨hb10, h⟩ | ⟨hb10, h⟩
    · refine AConf.go sys 0 102 [.k (notT hb10), .l cS a0.Of] ?_
      refine AConf.range (bodyOf Tryz.f14) [1, 0, 1, 1, 1, 1] (fun (_s : Unit) => ([(1, some (pL GTable.cells a1)), (2, some (.ptr 100 0)), (4, some (pI 0)), (5, some (.ptr 101 0)), (33, some (pL cS a0.Of)), (34, some (pI (a0.Of.length : Int)))], [(100, some (.var (GTrigger.pvs a0))), (101, some (.var (GSchema.pvs p7.1)))])) (bR 33 cS) h (fun _ h => h.symm) (fun _ h => ?_) (fun i36 x37 _ o34 hx38 h hrt => ?_)
      · refine AConf.go sys 0 102 [.l GRank.cells a0.Rank] ?_
        refine AConf.range (bodyOf Tryz.f14) [1, 0, 1, 1, 1, 1, 1] (fun (_s : Unit) => ([(1, some (pL GTable.cells a1)), (2, some (.ptr 100 0)), (4, some (pI 0)), (5, some (.ptr 101 0)), (45, some (pL GRank.cells a0.Rank)), (46, some (pI (a0.Rank.length : Int)))], [(100, some (.var (GTrigger.pvs a0))), (101, some (.var (GSchema.pvs p7.1)))])) (bR 45 GRank.cells) h (fun _ h => h.symm) (fun _ h => ?_) (fun i104 x105 _ o102 hx106 h hrt => ?_)
        · obtain ⟨p123, hp124, h⟩ := bind_some h
          obtain ⟨p125, hp126, h⟩ := bind_some h
          obtain ⟨p127, hp128, h⟩ := bind_some h
          obtain ⟨p132, hp133, h⟩ := bind_some h
          refine AConf.go sys 0 106 [.call (fr17_Frames_ok hp124), .call (fr17_Transitions_ok hp126), .call (fr17_All_ok hp128), .call (fr14_Condition_ok hp133)] ?_
          rcases ite_or h with ⟨hb134, h⟩ | ⟨hb134, h⟩
          · refine AConf.go sys 0 106 [.k (notT hb134), .l GAction.cells a0.Actions] ?_
            refine AConf.range (bodyOf Tryz.f14) [1, 0, 1, 1, 1, 1, 1, 1, 1, 1, 1] (fun (_s : Unit) => ([(4, some (pI 0)), (5, some (.ptr 101 0)), (14, some (pL GFrame.cells p123)), (15, some (pL GTable.cells p127)), (94, some (pL GAction.cells a0.Actions)), (95, some (pI (a0.Actions.length : Int)))], [(101, some (.var (GSchema.pvs p7.1)))])) (bR 94 GAction.cells) h (fun _ h => h.symm) (fun _ h => ?_) (fun i160 x161 _ o158 hx162 h hrt => ?_)
            · obtain rfl := Option.some.inj h
              refine AConf.go sys 0 108 [] ?_
              exact AConf.fin
            · unfold Fr17_Check.b5 at h
              obtain ⟨p163, hp164, h⟩ := bind_some h
              refine AConf.go sys 0 107 [.e GAction.cells hx162, .call (fr17_checkAction_ok hp164)] ?_
              rcases ite_or h with ⟨hb165, h⟩ | ⟨hb165, h⟩
              · refine AConf.go sys 0 108 [.k (notT hb165)] ?_
                exact AConf.rngC h
              · obtain rfl := Option.some.inj h
                obtain rfl := hrt _ rfl
                refine AConf.go sys 0 108 [.k (notF hb165)] ?_
                refine AConf.rngR ?_
                exact AConf.fin
          · obtain rfl := Option.some.inj h
            refine AConf.go sys 0 106 [.k (notF hb134)] ?_
            exact AConf.fin
        · unfold Fr17_Check.b3 at h
          obtain ⟨p107, hp108, h⟩ := bind_some h
          obtain ⟨p109, hp110, h⟩ := bind_some h
          refine AConf.go sys 2462 104 [.e GRank.cells hx106, .call (fr14_Source_ok hp108), .call (fr4_Find_ok hp110)] ?_
          refine AConf.join (ι := Bool) (bodyOf Tryz.f14) [0, 1, 1, 1, 9, 1, 0, 1, 1, 1, 1, 1] (fun q116 => Fr17_Check.j7 p107 p109 q116 = some o102) (fun (q116 : Bool) => ([(1, some (pL GTable.cells a1)), (2, some (.ptr 100 0)), (4, some (pI 0)), (5, some (.ptr 101 0)), (11, some (.ptr 105 0)), (13, some (pI p109)), (45, some (pL GRank.cells a0.Rank)), (46, some (pI (a0.Rank.length : Int))), (47, some (pI (i104 : Int))), (67, some (pB q116))], [(100, some (.var (GTrigger.pvs a0))), (101, some (.var (GSchema.pvs p7.1))), (105, some (.var (GSchema.pvs p107.1)))])) ?_ fun q116 h => ?_
          · rcases ite_or h with ⟨hb121, h⟩ | ⟨hb121, h⟩
            · refine AConf.go sys 0 106 [.kk 2 (notT hb121)] ?_
              exact AConf.joinN (i := (decide (p109 < 0))) h
            · refine AConf.go sys 0 106 [.kk 2 (notF hb121)] ?_
              exact AConf.joinN (i := true) h
          · unfold Fr17_Check.j7 at h
            rcases ite_or h with ⟨hb117, h⟩ | ⟨hb117, h⟩
            · obtain rfl := Option.some.inj h
              obtain rfl := hrt _ rfl
              refine AConf.go sys 0 106 [.k hb117] ?_
              refine AConf.rngR ?_
              exact AConf.fin
            · obtain ⟨x118, hv119, h⟩ := bind_some h
              refine AConf.go sys 0 106 [.k hb117, .x GColumn.cells hv119] ?_
              rcases ite_or h with ⟨hb120, h⟩ | ⟨hb120, h⟩
              · refine AConf.go sys 0 106 [.k (notT hb120)] ?_
                exact AConf.rngC h
              · obtain rfl := Option.some.inj h
                obtain rfl := hrt _ rfl
                refine AConf.go sys 0 106 [.k (notF hb120)] ?_
                refine AConf.rngR ?_
                exact AConf.fin
      · unfold Fr17_Check.b1 at h
        obtain ⟨p39, hp40, h⟩ := bind_some h
        refine AConf.go sys 0 102 [.e cS hx38, .call (fr4_Find_ok hp40)] ?_
        rcases ite_or h with ⟨hb41, h⟩ | ⟨hb41, h⟩
        · obtain rfl := Option.some.inj h
          obtain rfl := hrt _ rfl
          refine AConf.go sys 0 102 [.k hb41] ?_
          refine AConf.rngR ?_
          exact AConf.fin
        · refine AConf.go sys 0 102 [.k hb41] ?_
          exact AConf.rngC h
    · obtain rfl := Option.some.inj h
      refine AConf.go sys 0 102 [.k (notF hb10)] ?_
      exact AConf.fin
  · obtain rfl := Option.some.inj h
    refine AConf.go sys 0 101 [.k (notF hb6)] ?_
    exact AConf.fin

-- (*triggerstore/triggerstoreworld.Tape).Triggers
def Fw_Tape_Triggers.j5 (s218 : (List GTrigger) × (List GLink) × Int × GTape) (q240 : (List GTrigger) × (List GLink) × GTape) : Option (Go.Ab.Step ((List GTrigger) × (List GLink) × GTape) ((List GTrigger) × (List GLink) × Int × GTape)) :=
  (some (.cont (q240.1, q240.2.1, w64 (s218.2.2.1 - 1), (q240.2.2))))
def Fw_Tape_Triggers.b1 (k : Nat) (s218 : (List GTrigger) × (List GLink) × Int × GTape) : Option (Go.Ab.Step ((List GTrigger) × (List GLink) × GTape) ((List GTrigger) × (List GLink) × Int × GTape)) :=
  (if decide (0 < s218.2.2.1) = true then ((idx G0l (s218.1.length : Int)).bind fun x241 => ((Fw_Tape_Trigger k (s218.2.2.2) x241 s218.1).bind fun p243 => ((Fw_tablesOf k []).bind fun p250 => ((Fr17_Check k p243.1 p250).bind fun p252 => (if decide (p252 = 0) = true then ((Fr18_Add k s218.2.1 p243.1.Name p243.1.Precedes p243.1.Follows).bind fun p255 => (if decide (p255.2 = 0) = true then ((app 200 s218.1 ([p243.1])).bind fun l258 => (Fw_Tape_Triggers.j5 s218 (l258, p255.1, p243.2))) else (Fw_Tape_Triggers.j5 s218 (s218.1, s218.2.1, p243.2)))) else (Fw_Tape_Triggers.j5 s218 (s218.1, s218.2.1, p243.2))))))) else (some (.brk (s218.1, s218.2.1, s218.2.2.1, (s218.2.2.2)))))
def Fw_Tape_Triggers (k : Nat) (a0 : GTape) (a1 : Int) : Option ((List GTrigger) × (List GLink) × GTape) :=
  ((Fw_Tape_Next k a0 (w64 (a1 + 1))).bind fun p131 => ((loopN (Fw_Tape_Triggers.b1 k) k (([] : List GTrigger), [], p131.1, p131.2)).bind fun out => Out.el out (fun r0 => some r0) fun s260 => (some (s260.1, s260.2.1, (s260.2.2.2)))))
theorem fw_Tape_Triggers_ok {k : Nat} {a0 : GTape} {a1 : Int} {r : (List GTrigger) × (List GLink) × GTape} (h : Fw_Tape_Triggers k a0 a1 = some r) :
    ACalls Tryz.prog gl 5 [(.ptr 0 0), (pI a1)] [(0, some (.var (GTape.pvs a0)))] (.tup [(pL GTrigger.cells r.1), (pL GLink.cells r.2.1)]) [(0, some (.var (GTape.pvs r.2.2)))] [] := by
  refine ACalls.enter sys Tryz.func5 fun w F ν => ?_
  unfold Fw_Tape_Triggers at h
  obtain ⟨p131, hp132, h⟩ := bind_some h
  refine AConf.go sys 0 100 [.call (fw_Tape_Next_ok hp132), .ownR 3876 false 6 114 40 11] ?_
  refine AConf.rounds (bodyOf Tryz.f5) [1, 0, 1, 1, 1] (fun (s218 : (List GTrigger) × (List GLink) × Int × GTape) => ([(0, some (.ptr 0 0)), (4, some pN), (5, some pN), (6, some (.osl 114)), (7, some (pL GLink.cells s218.2.1)), (8, some (pI s218.2.2.1))], [(114, some (.arr false 40 11 (s218.1.map GTrigger.cells))), (0, some (.var (GTape.pvs s218.2.2.2)))])) h (fun _ h => h.symm) (fun s260 h => ?_) (fun s218 o217 h hrt => ?_)
  · obtain rfl := Option.some.inj h
    refine AConf.go sys 0 121 [.frz 3883 114] ?_
    exact AConf.fin
  · unfold Fw_Tape_Triggers.b1 at h
    rcases ite_or h with ⟨hb220, h⟩ | ⟨hb220, h⟩
    · refine AConf.go sys 8494 115 [.k hb220] ?_
      refine AConf.join (ι := (List GTrigger) × (List GLink) × GTape) (bodyOf Tryz.f5) [1, 8, 1, 0, 1, 1, 1] (fun q240 => Fw_Tape_Triggers.j5 s218 q240 = some o217) (fun (q240 : (List GTrigger) × (List GLink) × GTape) => ([(0, some (.ptr 0 0)), (4, some pN), (5, some pN), (6, some (.osl 117)), (7, some (pL GLink.cells q240.2.1)), (8, some (pI s218.2.2.1))], [(117, some (.arr false 40 11 (q240.1.map GTrigger.cells))), (0, some (.var (GTape.pvs q240.2.2)))])) ?_ fun q240 h => ?_
      · obtain ⟨x241, hv242, h⟩ := bind_some h
        obtain ⟨p243, hp244, h⟩ := bind_some h
        obtain ⟨p250, hp251, h⟩ := bind_some h
        obtain ⟨p252, hp253, h⟩ := bind_some h
        refine AConf.go sys 0 118 [.l GTrigger.cells s218.1, .g (f := fS) hv242, .call (fw_Tape_Trigger_ok hp244), .call (fw_tablesOf_ok hp251), .call (fr17_Check_ok hp253)] ?_
        rcases ite_or h with ⟨hb254, h⟩ | ⟨hb254, h⟩
        · obtain ⟨p255, hp256, h⟩ := bind_some h
          refine AConf.go sys 0 119 [.k (notT hb254), .call (fr18_Add_ok hp256)] ?_
          rcases ite_or h with ⟨hb257, h⟩ | ⟨hb257, h⟩
          · obtain ⟨l258, hv259, h⟩ := bind_some h
            refine AConf.go sys 0 119 [.k hb257, .b false GTrigger.cells ([p243.1]), .a false GTrigger.cells_len hv259, .kp 5 [0, 4, 5, 6, 7, 8] [0, 120], .ren 5 120 117] ?_
            exact AConf.joinN (i := (l258, p255.1, p243.2)) h
          · refine AConf.go sys 0 119 [.k hb257, .kp 10220 [0, 4, 5, 6, 7, 8] [0, 114], .ren 10220 114 117] ?_
            exact AConf.joinN (i := (s218.1, s218.2.1, p243.2)) h
        · refine AConf.go sys 0 119 [.k (notF hb254), .kp 8394 [0, 4, 5, 6, 7, 8] [0, 114], .ren 8394 114 117] ?_
          exact AConf.joinN (i := (s218.1, s218.2.1, p243.2)) h
      · unfold Fw_Tape_Triggers.j5 at h
        refine AConf.go sys 0 118 [.kp 3 [0, 4, 5, 6, 7, 8] [0, 117], .ren 3 117 114] ?_
        exact AConf.stpC h
    · refine AConf.go sys 0 115 [.k hb220] ?_
      exact AConf.stpB h

-- triggerstore/triggerstoreref6.Copy
def Fr6_Copy.b1 (k : Nat) (x48 : GRow) (i47 : Nat) (s46 : List GRow) : Option (Go.Ab.Step GTable (List GRow)) :=
  ((Fr5_Copy k x48.Values).bind fun p50 => ((app 32 s46 ([(GRow.mk x48.ID p50)])).bind fun l52 => (some (.cont l52))))
def Fr6_Copy (k : Nat) (a0 : GTable) : Option GTable :=
  ((app 32 ([] : List GColumn) a0.Schema.Columns).bind fun l1 => ((loopL (Fr6_Copy.b1 k) a0.Rows 0 ([] : List GRow)).bind fun out => Out.el out (fun r0 => some r0) fun s54 => (some (GTable.mk (GSchema.mk a0.Schema.Name l1) a0.Next s54))))
theorem fr6_Copy_ok {k : Nat} {a0 : GTable} {r : GTable} (h : Fr6_Copy k a0 = some r) :
    ACalls Tryz.prog gl 53 [(.agg (GTable.pvs a0))] [] (.agg (GTable.pvs r)) [] [] := by
  refine ACalls.enter sys Tryz.func53 fun w F ν => ?_
  unfold Fr6_Copy at h
  obtain ⟨l1, hv2, h⟩ := bind_some h
  refine AConf.go sys 0 100 [.a false GColumn.cells_len hv2, .l GRow.cells a0.Rows, .ownR 3876 false 3 111 93 2] ?_
  refine AConf.range (bodyOf Tryz.f53) [1, 0, 1, 1, 1] (fun (s46 : List GRow) => ([(1, some (.ptr 100 0)), (2, some (.ptr 101 0)), (3, some (.osl 111)), (13, some (pL GRow.cells a0.Rows)), (14, some (pI (a0.Rows.length : Int)))], [(111, some (.arr false 93 2 (s46.map GRow.cells))), (102, some (.arr false 98 4 (l1.map GColumn.cells))), (100, some (.var [(pS a0.Schema.Name), (.osl 102), (pI a0.Next), (pL GRow.cells a0.Rows)])), (101, some (.var [(pS []), pN, (pI 0), pN]))])) (bR 13 GRow.cells) h (fun _ h => h.symm) (fun s54 h => ?_) (fun i47 x48 s46 o45 hx49 h hrt => ?_)
  · obtain rfl := Option.some.inj h
    refine AConf.go sys 0 115 [.frz 8236 102, .frz 8236 111] ?_
    exact AConf.fin
  · unfold Fr6_Copy.b1 at h
    obtain ⟨p50, hp51, h⟩ := bind_some h
    obtain ⟨l52, hv53, h⟩ := bind_some h
    refine AConf.go sys 0 112 [.e GRow.cells hx49, .call (fr5_Copy_ok hp51), .b false GRow.cells ([(GRow.mk x48.ID p50)]), .a false GRow.cells_len hv53, .kp 10 [1, 2, 3, 13, 14, 15] [100, 101, 102, 114], .ren 10 114 111] ?_
    exact AConf.rngC h

-- triggerstore/triggerstoreref7.has
def Fr7_has.b1 (a1 : Int) (x21 : Int) (i20 : Nat) (s19 : Unit) : Option (Go.Ab.Step Bool Unit) :=
  (if decide (x21 = a1) = true then (some (.ret true)) else (some (.cont ())))
def Fr7_has (k : Nat) (a0 : List Int) (a1 : Int) : Option Bool :=
  ((loopL (Fr7_has.b1 a1) a0 0 ()).bind fun out => Out.el out (fun r0 => some r0) fun _ => (some false))
theorem fr7_has_ok {k : Nat} {a0 : List Int} {a1 : Int} {r : Bool} (h : Fr7_has k a0 a1 = some r) :
    ACalls Tryz.prog gl 54 [(pL cI a0), (pI a1)] [] (pB r) [] [] := by
  refine ACalls.enter sys Tryz.func54 fun w F ν => ?_
  unfold Fr7_has at h
  refine AConf.go sys 0 100 [.l cI a0] ?_
  refine AConf.range (bodyOf Tryz.f54) [1, 0, 1] (fun (_s : Unit) => ([(1, some (pI a1)), (4, some (pB false)), (7, some (pL cI a0)), (8, some (pI (a0.length : Int)))], [])) (bR 0 cI) h (fun _ h => h.symm) (fun _ h => ?_) (fun i20 x21 _ o18 hx22 h hrt => ?_)
  · obtain rfl := Option.some.inj h
    refine AConf.go sys 0 100 [] ?_
    exact AConf.fin
  · unfold Fr7_has.b1 at h
    refine AConf.go sys 0 100 [.e cI hx22] ?_
    rcases ite_or h with ⟨hb23, h⟩ | ⟨hb23, h⟩
    · obtain rfl := Option.some.inj h
      obtain rfl := hrt _ rfl
      refine AConf.go sys 0 100 [.k hb23] ?_
      refine AConf.rngR ?_
      exact AConf.fin
    · refine AConf.go sys 0 100 [.k hb23] ?_
      exact AConf.rngC h

-- triggerstore/triggerstoreref7.find
def Fr7_find.b1 (a1 : Int) (x21 : GPair) (i20 : Nat) (s19 : Unit) : Option (Go.Ab.Step ((List GValue) × Bool) Unit) :=
  (if decide (x21.ID = a1) = true then (some (.ret (x21.New, true))) else (some (.cont ())))
def Fr7_find (k : Nat) (a0 : List GPair) (a1 : Int) : Option ((List GValue) × Bool) :=
  ((loopL (Fr7_find.b1 a1) a0 0 ()).bind fun out => Out.el out (fun r0 => some r0) fun _ => (some ([], false)))
theorem fr7_find_ok {k : Nat} {a0 : List GPair} {a1 : Int} {r : (List GValue) × Bool} (h : Fr7_find k a0 a1 = some r) :
    ACalls Tryz.prog gl 55 [(pL GPair.cells a0), (pI a1)] [] (.tup [(pL GValue.cells r.1), (pB r.2)]) [] [] := by
  refine ACalls.enter sys Tryz.func55 fun w F ν => ?_
  unfold Fr7_find at h
  refine AConf.go sys 0 100 [.l GPair.cells a0] ?_
  refine AConf.range (bodyOf Tryz.f55) [1, 0, 1] (fun (_s : Unit) => ([(1, some (pI a1)), (4, some pN), (5, some (pB false)), (8, some (pL GPair.cells a0)), (9, some (pI (a0.length : Int)))], [])) (bR 0 GPair.cells) h (fun _ h => h.symm) (fun _ h => ?_) (fun i20 x21 _ o18 hx22 h hrt => ?_)
  · obtain rfl := Option.some.inj h
    refine AConf.go sys 0 102 [] ?_
    exact AConf.fin
  · unfold Fr7_find.b1 at h
    refine AConf.go sys 0 101 [.e GPair.cells hx22] ?_
    rcases ite_or h with ⟨hb23, h⟩ | ⟨hb23, h⟩
    · obtain rfl := Option.some.inj h
      obtain rfl := hrt _ rfl
      refine AConf.go sys 0 102 [.k hb23] ?_
      refine AConf.rngR ?_
      exact AConf.fin
    · refine AConf.go sys 0 102 [.k hb23] ?_
      exact AConf.rngC h

-- triggerstore/triggerstoreref4.KeyColumn
def Fr4_KeyColumn.b1 (x21 : GColumn) (i20 : Nat) (s19 : Unit) : Option (Go.Ab.Step Int Unit) :=
  (if x21.Key = true then (some (.ret (i20 : Int))) else (some (.cont ())))
def Fr4_KeyColumn (k : Nat) (a0 : GSchema) : Option Int :=
  ((loopL (Fr4_KeyColumn.b1) a0.Columns 0 ()).bind fun out => Out.el out (fun r0 => some r0) fun _ => (some (-1)))
theorem fr4_KeyColumn_ok {k : Nat} {a0 : GSchema} {r : Int} (h : Fr4_KeyColumn k a0 = some r) :
    ACalls Tryz.prog gl 99 [(.agg (GSchema.pvs a0))] [] (pI r) [] [] := by
  refine ACalls.enter sys Tryz.func99 fun w F ν => ?_
  unfold Fr4_KeyColumn at h
  refine AConf.go sys 0 100 [.l GColumn.cells a0.Columns] ?_
  refine AConf.range (bodyOf Tryz.f99) [1, 0, 1] (fun (_s : Unit) => ([(2, some (pI 0)), (6, some (pL GColumn.cells a0.Columns)), (7, some (pI (a0.Columns.length : Int)))], [])) (bR 6 GColumn.cells) h (fun _ h => h.symm) (fun _ h => ?_) (fun i20 x21 _ o18 hx22 h hrt => ?_)
  · obtain rfl := Option.some.inj h
    refine AConf.go sys 0 103 [] ?_
    exact AConf.fin
  · unfold Fr4_KeyColumn.b1 at h
    refine AConf.go sys 0 102 [.e GColumn.cells hx22] ?_
    rcases ite_or h with ⟨hb23, h⟩ | ⟨hb23, h⟩
    · obtain rfl := Option.some.inj h
      obtain rfl := hrt _ rfl
      refine AConf.go sys 0 103 [.k hb23] ?_
      refine AConf.rngR ?_
      exact AConf.fin
    · refine AConf.go sys 0 103 [.k hb23] ?_
      exact AConf.rngC h

-- triggerstore/triggerstoreref6.Duplicate
def Fr6_Duplicate.j5 (p1 : Int) (s86 : List (GValue × Bool)) (x88 : GRow) (q91 : Bool) : Option (Go.Ab.Step Bool (List (GValue × Bool))) :=
  (if q91 = true then ((idx x88.Values p1).bind fun x96 => (if ((mget x96 s86).getD false) = true then (some (.ret true)) else ((idx x88.Values p1).bind fun x99 => (some (.cont (mput x99 true s86)))))) else (some (.cont s86)))
def Fr6_Duplicate.b1 (p1 : Int) (x88 : GRow) (i87 : Nat) (s86 : List (GValue × Bool)) : Option (Go.Ab.Step Bool (List (GValue × Bool))) :=
  (if decide (0 ≤ p1) = true then (Fr6_Duplicate.j5 p1 s86 x88 (decide (p1 < (x88.Values.length : Int)))) else (Fr6_Duplicate.j5 p1 s86 x88 false))
def Fr6_Duplicate (k : Nat) (a0 : GTable) : Option Bool :=
  ((Fr4_KeyColumn k a0.Schema).bind fun p1 => ((loopL (Fr6_Duplicate.b1 p1) a0.Rows 0 ([] : List (GValue × Bool))).bind fun out => Out.el out (fun r0 => some r0) fun s102 => (some false)))
theorem fr6_Duplicate_ok {k : Nat} {a0 : GTable} {r : Bool} (h : Fr6_Duplicate k a0 = some r) :
    ACalls Tryz.prog gl 56 [(.agg (GTable.pvs a0))] [] (pB r) [] [] := by
  refine ACalls.enter sys Tryz.func56 fun w F ν => ?_
  unfold Fr6_Duplicate at h
  obtain ⟨p1, hp2, h⟩ := bind_some h
  refine AConf.go sys 0 100 [.call (fr4_KeyColumn_ok hp2), .l GRow.cells a0.Rows] ?_
  refine AConf.range (bodyOf Tryz.f56) [1, 0, 1, 1, 1] (fun (s86 : List (GValue × Bool)) => ([(2, some (pB false)), (3, some (pI p1)), (4, some (.map 101)), (12, some (pL GRow.cells a0.Rows)), (13, some (pI (a0.Rows.length : Int)))], [(101, some (.mp (mrow GValue.val (fun x : Bool => .bool x) s86)))])) (bR 12 GRow.cells) h (fun _ h => h.symm) (fun s102 h => ?_) (fun i87 x88 s86 o85 hx89 h hrt => ?_)
  · obtain rfl := Option.some.inj h
    refine AConf.go sys 0 105 [] ?_
    exact AConf.fin
  · unfold Fr6_Duplicate.b1 at h
    refine AConf.go sys 8501 104 [.e GRow.cells hx89] ?_
    refine AConf.join (ι := Bool) (bodyOf Tryz.f56) [1, 9, 1, 0, 1, 1, 1] (fun q91 => Fr6_Duplicate.j5 p1 s86 x88 q91 = some o85) (fun (q91 : Bool) => ([(2, some (pB false)), (3, some (pI p1)), (4, some (.map 101)), (6, some (.ptr 104 0)), (12, some (pL GRow.cells a0.Rows)), (13, some (pI (a0.Rows.length : Int))), (14, some (pI (i87 : Int))), (26, some (pB q91))], [(101, some (.mp (mrow GValue.val (fun x : Bool => .bool x) s86))), (104, some (.var (GRow.pvs x88)))])) ?_ fun q91 h => ?_
    · rcases ite_or h with ⟨hb101, h⟩ | ⟨hb101, h⟩
      · refine AConf.go sys 0 105 [.kk 3 hb101, .l GValue.cells x88.Values, .kk 1 hb101] ?_
        exact AConf.joinN (i := (decide (p1 < (x88.Values.length : Int)))) h
      · refine AConf.go sys 0 105 [.kk 5 hb101] ?_
        exact AConf.joinN (i := false) h
    · unfold Fr6_Duplicate.j5 at h
      rcases ite_or h with ⟨hb92, h⟩ | ⟨hb92, h⟩
      · obtain ⟨x96, hv97, h⟩ := bind_some h
        refine AConf.go sys 0 105 [.k hb92, .x GValue.cells hv97, .lkp (ek := GValue.val) (ev := (fun x : Bool => .bool x)) (z := false) Tryz.underlying180 kt91 zv4 (fun _ => rfl) s86 x96] ?_
        rcases ite_or h with ⟨hb98, h⟩ | ⟨hb98, h⟩
        · obtain rfl := Option.some.inj h
          obtain rfl := hrt _ rfl
          refine AConf.go sys 0 105 [.k hb98] ?_
          refine AConf.rngR ?_
          exact AConf.fin
        · obtain ⟨x99, hv100, h⟩ := bind_some h
          refine AConf.go sys 0 105 [.k hb98, .x GValue.cells hv100, .mup (ek := GValue.val) (fun x : Bool => .bool x) Tryz.underlying180 kt91 s86 x99 true] ?_
          exact AConf.rngC h
      · refine AConf.go sys 0 105 [.k hb92] ?_
        exact AConf.rngC h

-- internal/bytealg.CompareString
def Fbytealg_CompareString (k : Nat) (a0 : List UInt8) (a1 : List UInt8) : Option Int :=
  (some (cmpS a0 a1))
theorem fbytealg_CompareString_ok {k : Nat} {a0 : List UInt8} {a1 : List UInt8} {r : Int} (h : Fbytealg_CompareString k a0 a1 = some r) :
    ACalls Tryz.prog gl 132 [(pS a0), (pS a1)] [] (pI r) [] [] := by
  refine ACalls.enter sys Tryz.func132 fun w F ν => ?_
  unfold Fbytealg_CompareString at h
  obtain rfl := Option.some.inj h
  refine AConf.go sys 0 100 [.cmp Tryz.func133 (by kernel_rfl) (by kernel_rfl) (by kernel_rfl) (by kernel_rfl)] ?_
  exact AConf.fin

-- strings.Compare
def Fstrings_Compare (k : Nat) (a0 : List UInt8) (a1 : List UInt8) : Option Int :=
  ((Fbytealg_CompareString k a0 a1).bind fun p1 => (some p1))
theorem fstrings_Compare_ok {k : Nat} {a0 : List UInt8} {a1 : List UInt8} {r : Int} (h : Fstrings_Compare k a0 a1 = some r) :
    ACalls Tryz.prog gl 131 [(pS a0), (pS a1)] [] (pI r) [] [] := by
  refine ACalls.enter sys Tryz.func131 fun w F ν => ?_
  unfold Fstrings_Compare at h
  obtain ⟨p1, hp2, h⟩ := bind_some h
  obtain rfl := Option.some.inj h
  refine AConf.go sys 0 100 [.call (fbytealg_CompareString_ok hp2)] ?_
  exact AConf.fin

-- triggerstore/triggerstoreref1.Compare
def Fr1_Compare (k : Nat) (a0 : GValue) (a1 : GValue) : Option Int :=
  (if decide (a0.Kind = a1.Kind) = true then (if decide (a0.Int = a1.Int) = true then ((Fstrings_Compare k a0.Text a1.Text).bind fun p9 => (some p9)) else (if decide (a0.Int < a1.Int) = true then (some (-1)) else (some 1))) else (if decide (a0.Kind < a1.Kind) = true then (some (-1)) else (some 1)))
theorem fr1_Compare_ok {k : Nat} {a0 : GValue} {a1 : GValue} {r : Int} (h : Fr1_Compare k a0 a1 = some r) :
    ACalls Tryz.prog gl 123 [(.agg (GValue.pvs a0)), (.agg (GValue.pvs a1))] [] (pI r) [] [] := by
  refine ACalls.enter sys Tryz.func123 fun w F ν => ?_
  unfold Fr1_Compare at h
  rcases ite_or h with ⟨hb4, h⟩ | ⟨hb4, h⟩
  · refine AConf.go sys 0 100 [.k (notT hb4)] ?_
    rcases ite_or h with ⟨hb8, h⟩ | ⟨hb8, h⟩
    · obtain ⟨p9, hp10, h⟩ := bind_some h
      obtain rfl := Option.some.inj h
      refine AConf.go sys 0 102 [.k (notT hb8), .call (fstrings_Compare_ok hp10)] ?_
      exact AConf.fin
    · refine AConf.go sys 0 102 [.k (notF hb8)] ?_
      rcases ite_or h with ⟨hb12, h⟩ | ⟨hb12, h⟩
      · obtain rfl := Option.some.inj h
        refine AConf.go sys 0 102 [.k hb12] ?_
        exact AConf.fin
      · obtain rfl := Option.some.inj h
        refine AConf.go sys 0 102 [.k hb12] ?_
        exact AConf.fin
  · refine AConf.go sys 0 100 [.k (notF hb4)] ?_
    rcases ite_or h with ⟨hb14, h⟩ | ⟨hb14, h⟩
    · obtain rfl := Option.some.inj h
      refine AConf.go sys 0 102 [.k hb14] ?_
      exact AConf.fin
    · obtain rfl := Option.some.inj h
      refine AConf.go sys 0 102 [.k hb14] ?_
      exact AConf.fin

-- triggerstore/triggerstoreref1.CompareRows
def Fr1_CompareRows.j11 (k : Nat) (a0 : List GValue) (a1 : List GValue) (s119 : Int) (q125 : Bool) : Option (Go.Ab.Step Int Int) :=
  (if q125 = true then ((idx a0 s119).bind fun x134 => ((idx a1 s119).bind fun x136 => ((Fr1_Compare k x134 x136).bind fun p138 => (if decide (p138 = 0) = true then (some (.cont (w64 (s119 + 1)))) else (some (.ret p138)))))) else (some (.brk s119)))
def Fr1_CompareRows.b1 (k : Nat) (a0 : List GValue) (a1 : List GValue) (s119 : Int) : Option (Go.Ab.Step Int Int) :=
  (if decide (s119 < (a0.length : Int)) = true then (Fr1_CompareRows.j11 k a0 a1 s119 (decide (s119 < (a1.length : Int)))) else (Fr1_CompareRows.j11 k a0 a1 s119 false))
def Fr1_CompareRows (k : Nat) (a0 : List GValue) (a1 : List GValue) : Option Int :=
  ((loopN (Fr1_CompareRows.b1 k a0 a1) k 0).bind fun out => Out.el out (fun r0 => some r0) fun s142 => (if decide ((a0.length : Int) < (a1.length : Int)) = true then (some (-1)) else (if decide ((a1.length : Int) < (a0.length : Int)) = true then (some 1) else (some 0))))
theorem fr1_CompareRows_ok {k : Nat} {a0 : List GValue} {a1 : List GValue} {r : Int} (h : Fr1_CompareRows k a0 a1 = some r) :
    ACalls Tryz.prog gl 97 [(pL GValue.cells a0), (pL GValue.cells a1)] [] (pI r) [] [] := by
  refine ACalls.enter sys Tryz.func97 fun w F ν => ?_
  unfold Fr1_CompareRows at h
  refine AConf.go sys 0 100 [] ?_
  refine AConf.rounds (bodyOf Tryz.f97) [1, 0, 1] (fun (s119 : Int) => ([(0, some (pL GValue.cells a0)), (1, some (pL GValue.cells a1)), (4, some (pI 0)), (5, some (pI s119))], [])) h (fun _ h => h.symm) (fun s142 h => ?_) (fun s119 o118 h hrt => ?_)
  · refine AConf.go sys 0 100 [.l GValue.cells a0, .l GValue.cells a1] ?_
    rcases ite_or h with ⟨hb144, h⟩ | ⟨hb144, h⟩
    · obtain rfl := Option.some.inj h
      refine AConf.go sys 0 100 [.k hb144] ?_
      exact AConf.fin
    · refine AConf.go sys 0 100 [.k hb144, .l GValue.cells a0, .l GValue.cells a1] ?_
      rcases ite_or h with ⟨hb146, h⟩ | ⟨hb146, h⟩
      · obtain rfl := Option.some.inj h
        refine AConf.go sys 0 100 [.k hb146] ?_
        exact AConf.fin
      · obtain rfl := Option.some.inj h
        refine AConf.go sys 0 100 [.k hb146] ?_
        exact AConf.fin
  · unfold Fr1_CompareRows.b1 at h
    refine AConf.go sys 3588 100 [] ?_
    refine AConf.join (ι := Bool) (bodyOf Tryz.f97) [0, 8, 1, 0, 1] (fun q125 => Fr1_CompareRows.j11 k a0 a1 s119 q125 = some o118) (fun (q125 : Bool) => ([(0, some (pL GValue.cells a0)), (1, some (pL GValue.cells a1)), (4, some (pI 0)), (5, some (pI s119)), (16, some (pB q125))], [])) ?_ fun q125 h => ?_
    · refine AConf.go sys 0 100 [.l GValue.cells a0] ?_
      rcases ite_or h with ⟨hb141, h⟩ | ⟨hb141, h⟩
      · refine AConf.go sys 0 100 [.kk 2 hb141, .l GValue.cells a1, .kk 1 hb141] ?_
        exact AConf.joinN (i := (decide (s119 < (a1.length : Int)))) h
      · refine AConf.go sys 0 100 [.kk 4 hb141] ?_
        exact AConf.joinN (i := false) h
    · unfold Fr1_CompareRows.j11 at h
      rcases ite_or h with ⟨hb126, h⟩ | ⟨hb126, h⟩
      · obtain ⟨x134, hv135, h⟩ := bind_some h
        obtain ⟨x136, hv137, h⟩ := bind_some h
        obtain ⟨p138, hp139, h⟩ := bind_some h
        refine AConf.go sys 0 100 [.k hb126, .x GValue.cells hv135, .x GValue.cells hv137, .call (fr1_Compare_ok hp139)] ?_
        rcases ite_or h with ⟨hb140, h⟩ | ⟨hb140, h⟩
        · refine AConf.go sys 0 100 [.k (notT hb140)] ?_
          exact AConf.stpC h
        · obtain rfl := Option.some.inj h
          obtain rfl := hrt _ rfl
          refine AConf.go sys 0 100 [.k (notF hb140)] ?_
          refine AConf.stpR ?_
          exact AConf.fin
      · refine AConf.go sys 0 100 [.k hb126] ?_
        exact AConf.stpB h

-- triggerstore/triggerstoreref4.Fits
def Fr4_Fits (k : Nat) (a0 : GColumn) (a1 : GValue) : Option Int :=
  ((Fr1_Valid k a1).bind fun p4 => (if p4 = true then (if decide (a1.Kind = 0) = true then (if a0.NotNull = true then (some 8) else (some 0)) else (if decide (a1.Kind = a0.Typ) = true then (some 0) else (some 5))) else (some 17)))
theorem fr4_Fits_ok {k : Nat} {a0 : GColumn} {a1 : GValue} {r : Int} (h : Fr4_Fits k a0 a1 = some r) :
    ACalls Tryz.prog gl 98 [(.agg (GColumn.pvs a0)), (.agg (GValue.pvs a1))] [] (pI r) [] [] := by
  refine ACalls.enter sys Tryz.func98 fun w F ν => ?_
  unfold Fr4_Fits at h
  obtain ⟨p4, hp5, h⟩ := bind_some h
  refine AConf.go sys 0 100 [.call (fr1_Valid_ok hp5)] ?_
  rcases ite_or h with ⟨hb6, h⟩ | ⟨hb6, h⟩
  · refine AConf.go sys 0 102 [.k (notT hb6)] ?_
    rcases ite_or h with ⟨hb10, h⟩ | ⟨hb10, h⟩
    · refine AConf.go sys 0 102 [.k hb10] ?_
      rcases ite_or h with ⟨hb12, h⟩ | ⟨hb12, h⟩
      · obtain rfl := Option.some.inj h
        refine AConf.go sys 0 102 [.k hb12] ?_
        exact AConf.fin
      · obtain rfl := Option.some.inj h
        refine AConf.go sys 0 102 [.k hb12] ?_
        exact AConf.fin
    · refine AConf.go sys 0 102 [.k hb10] ?_
      rcases ite_or h with ⟨hb14, h⟩ | ⟨hb14, h⟩
      · obtain rfl := Option.some.inj h
        refine AConf.go sys 0 102 [.k (notT hb14)] ?_
        exact AConf.fin
      · obtain rfl := Option.some.inj h
        refine AConf.go sys 0 102 [.k (notF hb14)] ?_
        exact AConf.fin
  · obtain rfl := Option.some.inj h
    refine AConf.go sys 0 102 [.k (notF hb6)] ?_
    exact AConf.fin

-- triggerstore/triggerstoreref5.Fits
def Fr5_Fits.b1 (k : Nat) (a1 : List GValue) (x35 : GColumn) (i34 : Nat) (s33 : Unit) : Option (Go.Ab.Step Int Unit) :=
  ((idx a1 (i34 : Int)).bind fun x37 => ((Fr4_Fits k x35 x37).bind fun p39 => (if decide (p39 = 0) = true then (some (.cont ())) else (some (.ret p39)))))
def Fr5_Fits (k : Nat) (a0 : GSchema) (a1 : List GValue) : Option Int :=
  (if decide ((a1.length : Int) = (a0.Columns.length : Int)) = true then ((loopL (Fr5_Fits.b1 k a1) a0.Columns 0 ()).bind fun out => Out.el out (fun r0 => some r0) fun _ => (some 0)) else (some 17))
theorem fr5_Fits_ok {k : Nat} {a0 : GSchema} {a1 : List GValue} {r : Int} (h : Fr5_Fits k a0 a1 = some r) :
    ACalls Tryz.prog gl 52 [(.agg (GSchema.pvs a0)), (pL GValue.cells a1)] [] (pI r) [] [] := by
  refine ACalls.enter sys Tryz.func52 fun w F ν => ?_
  unfold Fr5_Fits at h
  refine AConf.go sys 0 100 [.l GValue.cells a1, .l GColumn.cells a0.Columns] ?_
  rcases ite_or h with ⟨hb2, h⟩ | ⟨hb2, h⟩
  · refine AConf.go sys 0 101 [.k (notT hb2), .l GColumn.cells a0.Columns] ?_
    refine AConf.range (bodyOf Tryz.f52) [1, 0, 1, 1] (fun (_s : Unit) => ([(1, some (pL GValue.cells a1)), (4, some (pI 0)), (15, some (pL GColumn.cells a0.Columns)), (16, some (pI (a0.Columns.length : Int)))], [])) (bR 11 GColumn.cells) h (fun _ h => h.symm) (fun _ h => ?_) (fun i34 x35 _ o32 hx36 h hrt => ?_)
    · obtain rfl := Option.some.inj h
      refine AConf.go sys 0 103 [] ?_
      exact AConf.fin
    · unfold Fr5_Fits.b1 at h
      obtain ⟨x37, hv38, h⟩ := bind_some h
      obtain ⟨p39, hp40, h⟩ := bind_some h
      refine AConf.go sys 0 102 [.e GColumn.cells hx36, .x GValue.cells hv38, .call (fr4_Fits_ok hp40)] ?_
      rcases ite_or h with ⟨hb41, h⟩ | ⟨hb41, h⟩
      · refine AConf.go sys 0 103 [.k (notT hb41)] ?_
        exact AConf.rngC h
      · obtain rfl := Option.some.inj h
        obtain rfl := hrt _ rfl
        refine AConf.go sys 0 103 [.k (notF hb41)] ?_
        refine AConf.rngR ?_
        exact AConf.fin
  · obtain rfl := Option.some.inj h
    refine AConf.go sys 0 101 [.k (notF hb2)] ?_
    exact AConf.fin

-- triggerstore/triggerstoreref6.Valid
def Fr6_Valid.j5 (q115 : Bool) : Option (Go.Ab.Step Bool Unit) :=
  (if q115 = true then (some (.ret false)) else (some (.cont ())))
def Fr6_Valid.b1 (k : Nat) (a0 : GTable) (x103 : GRow) (i102 : Nat) (s101 : Unit) : Option (Go.Ab.Step Bool Unit) :=
  (if decide (x103.ID < 1) = true then (Fr6_Valid.j5 true) else (if decide (a0.Next ≤ x103.ID) = true then (Fr6_Valid.j5 true) else (if decide (0 < (i102 : Int)) = true then ((idx a0.Rows (w64 ((i102 : Int) - 1))).bind fun x120 => (if decide (x103.ID ≤ x120.ID) = true then (Fr6_Valid.j5 true) else ((Fr5_Fits k a0.Schema x103.Values).bind fun p123 => (Fr6_Valid.j5 (!decide (p123 = 0)))))) else ((Fr5_Fits k a0.Schema x103.Values).bind fun p125 => (Fr6_Valid.j5 (!decide (p125 = 0)))))))
def Fr6_Valid.j1 (k : Nat) (a0 : GTable) (q18 : Bool) : Option Bool :=
  (if q18 = true then (some false) else ((loopL (Fr6_Valid.b1 k a0) a0.Rows 0 ()).bind fun out => Out.el out (fun r0 => some r0) fun _ => ((Fr6_Duplicate k a0).bind fun p128 => (some (!p128)))))
def Fr6_Valid (k : Nat) (a0 : GTable) : Option Bool :=
  ((Fr4_Valid k a0.Schema).bind fun p130 => (if p130 = true then (if decide (100 < (a0.Rows.length : Int)) = true then (Fr6_Valid.j1 k a0 true) else (if decide (a0.Next < 1) = true then (Fr6_Valid.j1 k a0 true) else (Fr6_Valid.j1 k a0 (decide (2147483648 < a0.Next))))) else (Fr6_Valid.j1 k a0 true)))
theorem fr6_Valid_ok {k : Nat} {a0 : GTable} {r : Bool} (h : Fr6_Valid k a0 = some r) :
    ACalls Tryz.prog gl 95 [(.agg (GTable.pvs a0))] [] (pB r) [] [] := by
  refine ACalls.enter sys Tryz.func95 fun w F ν => ?_
  unfold Fr6_Valid at h
  refine AConf.go sys 7142 100 [] ?_
  refine AConf.join (ι := Bool) (bodyOf Tryz.f95) [0, 1] (fun q18 => Fr6_Valid.j1 k a0 q18 = some r) (fun (q18 : Bool) => ([(1, some (.ptr 100 0)), (2, some (pB false)), (24, some (pB q18))], [(100, some (.var (GTable.pvs a0)))])) ?_ fun q18 h => ?_
  · obtain ⟨p130, hp131, h⟩ := bind_some h
    refine AConf.go sys 0 103 [.call (fr4_Valid_ok hp131)] ?_
    rcases ite_or h with ⟨hb132, h⟩ | ⟨hb132, h⟩
    · refine AConf.go sys 0 103 [.kk 2 (notT hb132), .l GRow.cells a0.Rows, .kk 1 (notT hb132)] ?_
      rcases ite_or h with ⟨hb133, h⟩ | ⟨hb133, h⟩
      · refine AConf.go sys 0 103 [.kk 3 hb133, .kk 3 (rfl : true = _)] ?_
        exact AConf.joinN (i := true) h
      · refine AConf.go sys 0 103 [.kk 3 hb133] ?_
        rcases ite_or h with ⟨hb134, h⟩ | ⟨hb134, h⟩
        · refine AConf.go sys 0 103 [.kk 3 hb134] ?_
          exact AConf.joinN (i := true) h
        · refine AConf.go sys 0 103 [.kk 3 hb134] ?_
          exact AConf.joinN (i := (decide (2147483648 < a0.Next))) h
    · refine AConf.go sys 0 103 [.kk 4 (notF hb132), .kk 7 (rfl : true = _)] ?_
      exact AConf.joinN (i := true) h
  · unfold Fr6_Valid.j1 at h
    rcases ite_or h with ⟨hb19, h⟩ | ⟨hb19, h⟩
    · obtain rfl := Option.some.inj h
      refine AConf.go sys 0 101 [.k hb19] ?_
      exact AConf.fin
    · refine AConf.go sys 0 101 [.k hb19, .l GRow.cells a0.Rows] ?_
      refine AConf.range (bodyOf Tryz.f95) [1, 0, 1, 1] (fun (_s : Unit) => ([(1, some (.ptr 100 0)), (2, some (pB false)), (26, some (pL GRow.cells a0.Rows)), (27, some (pI (a0.Rows.length : Int)))], [(100, some (.var (GTable.pvs a0)))])) (bR 26 GRow.cells) h (fun _ h => h.symm) (fun _ h => ?_) (fun i102 x103 _ o100 hx104 h hrt => ?_)
      · obtain ⟨p128, hp129, h⟩ := bind_some h
        obtain rfl := Option.some.inj h
        refine AConf.go sys 0 103 [.call (fr6_Duplicate_ok hp129)] ?_
        exact AConf.fin
      · unfold Fr6_Valid.b1 at h
        refine AConf.go sys 7949 102 [.e GRow.cells hx104] ?_
        refine AConf.join (ι := Bool) (bodyOf Tryz.f95) [1, 9, 1, 0, 1, 1] (fun q115 => Fr6_Valid.j5 q115 = some o100) (fun (q115 : Bool) => ([(1, some (.ptr 100 0)), (2, some (pB false)), (26, some (pL GRow.cells a0.Rows)), (27, some (pI (a0.Rows.length : Int))), (28, some (pI (i102 : Int))), (66, some (pB q115))], [(100, some (.var (GTable.pvs a0)))])) ?_ fun q115 h => ?_
        · rcases ite_or h with ⟨hb117, h⟩ | ⟨hb117, h⟩
          · refine AConf.go sys 0 103 [.kk 5 hb117, .kk 11 (rfl : true = _)] ?_
            exact AConf.joinN (i := true) h
          · rcases ite_or h with ⟨hb118, h⟩ | ⟨hb118, h⟩
            · refine AConf.go sys 0 103 [.kk 5 hb117, .kk 4 hb118, .kk 6 (rfl : true = _)] ?_
              exact AConf.joinN (i := true) h
            · rcases ite_or h with ⟨hb119, h⟩ | ⟨hb119, h⟩
              · obtain ⟨x120, hv121, h⟩ := bind_some h
                rcases ite_or h with ⟨hb122, h⟩ | ⟨hb122, h⟩
                · refine AConf.go sys 0 103 [.kk 5 hb117, .kk 2 hb118, .kk 4 hb119, .x GRow.cells hv121, .kk 4 hb119, .k hb118, .k hb119, .k hb118, .kk 6 hb122] ?_
                  exact AConf.joinN (i := true) h
                · obtain ⟨p123, hp124, h⟩ := bind_some h
                  refine AConf.go sys 0 103 [.kk 5 hb117, .kk 2 hb118, .kk 4 hb119, .x GRow.cells hv121, .kk 4 hb119, .k hb118, .k hb119, .k hb118, .kk 4 hb122, .call (fr5_Fits_ok hp124), .kk 1 hb122] ?_
                  exact AConf.joinN (i := (!decide (p123 = 0))) h
              · obtain ⟨p125, hp126, h⟩ := bind_some h
                refine AConf.go sys 0 103 [.kk 5 hb117, .kk 2 hb118, .kk 9 hb119, .k hb118, .k hb119, .k hb118, .kk 4 (rfl : false = _), .call (fr5_Fits_ok hp126), .kk 1 (rfl : false = _)] ?_
                exact AConf.joinN (i := (!decide (p125 = 0))) h
        · unfold Fr6_Valid.j5 at h
          rcases ite_or h with ⟨hb116, h⟩ | ⟨hb116, h⟩
          · obtain rfl := Option.some.inj h
            obtain rfl := hrt _ rfl
            refine AConf.go sys 0 103 [.k hb116] ?_
            refine AConf.rngR ?_
            exact AConf.fin
          · refine AConf.go sys 0 103 [.k hb116] ?_
            exact AConf.rngC h

-- triggerstore/triggerstoreref6.Get
def Fr6_Get.b1 (k : Nat) (a1 : Int) (x27 : GRow) (i26 : Nat) (s25 : Unit) : Option (Go.Ab.Step ((List GValue) × Bool) Unit) :=
  (if decide (x27.ID = a1) = true then ((Fr5_Copy k x27.Values).bind fun p30 => (some (.ret (p30, true)))) else (some (.cont ())))
def Fr6_Get (k : Nat) (a0 : GTable) (a1 : Int) : Option ((List GValue) × Bool) :=
  ((loopL (Fr6_Get.b1 k a1) a0.Rows 0 ()).bind fun out => Out.el out (fun r0 => some r0) fun _ => (some ([], false)))
theorem fr6_Get_ok {k : Nat} {a0 : GTable} {a1 : Int} {r : (List GValue) × Bool} (h : Fr6_Get k a0 a1 = some r) :
    ACalls Tryz.prog gl 96 [(.agg (GTable.pvs a0)), (pI a1)] [] (.tup [(pL GValue.cells r.1), (pB r.2)]) [] [] := by
  refine ACalls.enter sys Tryz.func96 fun w F ν => ?_
  unfold Fr6_Get at h
  refine AConf.go sys 0 100 [.l GRow.cells a0.Rows] ?_
  refine AConf.range (bodyOf Tryz.f96) [1, 0, 1] (fun (_s : Unit) => ([(1, some (pI a1)), (4, some pN), (5, some (pB false)), (9, some (pL GRow.cells a0.Rows)), (10, some (pI (a0.Rows.length : Int)))], [])) (bR 9 GRow.cells) h (fun _ h => h.symm) (fun _ h => ?_) (fun i26 x27 _ o24 hx28 h hrt => ?_)
  · obtain rfl := Option.some.inj h
    refine AConf.go sys 0 103 [] ?_
    exact AConf.fin
  · unfold Fr6_Get.b1 at h
    refine AConf.go sys 0 102 [.e GRow.cells hx28] ?_
    rcases ite_or h with ⟨hb29, h⟩ | ⟨hb29, h⟩
    · obtain ⟨p30, hp31, h⟩ := bind_some h
      obtain rfl := Option.some.inj h
      obtain rfl := hrt _ rfl
      refine AConf.go sys 0 103 [.k hb29, .call (fr5_Copy_ok hp31)] ?_
      refine AConf.rngR ?_
      exact AConf.fin
    · refine AConf.go sys 0 103 [.k hb29] ?_
      exact AConf.rngC h

-- triggerstore/triggerstoreref7.Valid
def Fr7_Valid.j11 (s150 : List (Int × Bool)) (x152 : Int) (q172 : Bool) : Option (Go.Ab.Step Bool (List (Int × Bool))) :=
  (if q172 = true then (some (.ret false)) else (some (.cont (mput x152 true s150))))
def Fr7_Valid.b1 (k : Nat) (a0 : GTable) (a1 : GChange) (x152 : Int) (i151 : Nat) (s150 : List (Int × Bool)) : Option (Go.Ab.Step Bool (List (Int × Bool))) :=
  ((Fr6_Get k a0 x152).bind fun p166 => (if p166.2 = true then (if decide (0 < (i151 : Int)) = true then ((idx a1.Deleted (w64 ((i151 : Int) - 1))).bind fun x176 => (Fr7_Valid.j11 s150 x152 (decide (x152 ≤ x176)))) else (Fr7_Valid.j11 s150 x152 false)) else (Fr7_Valid.j11 s150 x152 true)))
def Fr7_Valid.j15 (q296 : Bool) : Option (Go.Ab.Step Bool Unit) :=
  (if q296 = true then (some (.ret false)) else (some (.cont ())))
def Fr7_Valid.b3 (k : Nat) (a0 : GTable) (a1 : GChange) (s178 : List (Int × Bool)) (x280 : GPair) (i279 : Nat) (s278 : Unit) : Option (Go.Ab.Step Bool Unit) :=
  ((Fr6_Get k a0 x280.ID).bind fun p282 => (if p282.2 = true then (if ((mget x280.ID s178).getD false) = true then (Fr7_Valid.j15 true) else (if decide (0 < (i279 : Int)) = true then ((idx a1.Updated (w64 ((i279 : Int) - 1))).bind fun x301 => (if decide (x280.ID ≤ x301.ID) = true then (Fr7_Valid.j15 true) else ((Fr1_CompareRows k p282.1 x280.Old).bind fun p304 => (if decide (p304 = 0) = true then (Fr7_Valid.j15 (!decide ((x280.New.length : Int) = (a0.Schema.Columns.length : Int)))) else (Fr7_Valid.j15 true))))) else ((Fr1_CompareRows k p282.1 x280.Old).bind fun p307 => (if decide (p307 = 0) = true then (Fr7_Valid.j15 (!decide ((x280.New.length : Int) = (a0.Schema.Columns.length : Int)))) else (Fr7_Valid.j15 true))))) else (Fr7_Valid.j15 true)))
def Fr7_Valid.b5 (a0 : GTable) (x331 : List GValue) (i330 : Nat) (s329 : Unit) : Option (Go.Ab.Step Bool Unit) :=
  (if decide ((x331.length : Int) = (a0.Schema.Columns.length : Int)) = true then (some (.cont ())) else (some (.ret false)))
def Fr7_Valid (k : Nat) (a0 : GTable) (a1 : GChange) : Option Bool :=
  ((Fr6_Valid k a0).bind fun p4 => (if p4 = true then ((loopL (Fr7_Valid.b1 k a0 a1) a1.Deleted 0 ([] : List (Int × Bool))).bind fun out => Out.el out (fun r0 => some r0) fun s178 => ((loopL (Fr7_Valid.b3 k a0 a1 s178) a1.Updated 0 ()).bind fun out => Out.el out (fun r0 => some r0) fun _ => ((loopL (Fr7_Valid.b5 a0) a1.Inserted 0 ()).bind fun out => Out.el out (fun r0 => some r0) fun _ => (some true)))) else (some false)))
theorem fr7_Valid_ok {k : Nat} {a0 : GTable} {a1 : GChange} {r : Bool} (h : Fr7_Valid k a0 a1 = some r) :
    ACalls Tryz.prog gl 51 [(.agg (GTable.pvs a0)), (.agg (GChange.pvs a1))] [] (pB r) [] [] := by
  refine ACalls.enter sys Tryz.func51 fun w F ν => ?_
  unfold Fr7_Valid at h
  obtain ⟨p4, hp5, h⟩ := bind_some h
  refine AConf.go sys 0 100 [.call (fr6_Valid_ok hp5)] ?_
  rcases ite_or h with ⟨hb6, h⟩ | ⟨hb6, h⟩
  · refine AConf.go sys 0 102 [.k (notT hb6), .l GColumn.cells a0.Schema.Columns, .l cI a1.Deleted] ?_
    refine AConf.range (bodyOf Tryz.f51) [1, 0, 1, 1, 1, 1] (fun (s150 : List (Int × Bool)) => ([(2, some (.ptr 100 0)), (3, some (.ptr 101 0)), (4, some (pB false)), (5, some (pI (a0.Schema.Columns.length : Int))), (6, some (.map 102)), (26, some (pL cI a1.Deleted)), (27, some (pI (a1.Deleted.length : Int)))], [(100, some (.var (GTable.pvs a0))), (101, some (.var (GChange.pvs a1))), (102, some (.mp (mrow (fun x : Int => .int .i64 x) (fun x : Bool => .bool x) s150)))])) (bR 26 cI) h (fun _ h => h.symm) (fun s178 h => ?_) (fun i151 x152 s150 o149 hx153 h hrt => ?_)
    · refine AConf.go sys 0 103 [.l GPair.cells a1.Updated] ?_
      refine AConf.range (bodyOf Tryz.f51) [1, 0, 1, 1, 1, 1, 1] (fun (_s : Unit) => ([(2, some (.ptr 100 0)), (3, some (.ptr 101 0)), (4, some (pB false)), (5, some (pI (a0.Schema.Columns.length : Int))), (6, some (.map 102)), (59, some (pL GPair.cells a1.Updated)), (60, some (pI (a1.Updated.length : Int)))], [(100, some (.var (GTable.pvs a0))), (101, some (.var (GChange.pvs a1))), (102, some (.mp (mrow (fun x : Int => .int .i64 x) (fun x : Bool => .bool x) s178)))])) (bR 59 GPair.cells) h (fun _ h => h.symm) (fun _ h => ?_) (fun i279 x280 _ o277 hx281 h hrt => ?_)
      · refine AConf.go sys 0 105 [.l (cL GValue.cells) a1.Inserted] ?_
        refine AConf.range (bodyOf Tryz.f51) [1, 0, 1, 1, 1, 1, 1, 1] (fun (_s : Unit) => ([(4, some (pB false)), (5, some (pI (a0.Schema.Columns.length : Int))), (113, some (pL (cL GValue.cells) a1.Inserted)), (114, some (pI (a1.Inserted.length : Int)))], [])) (bR 113 (cL GValue.cells)) h (fun _ h => h.symm) (fun _ h => ?_) (fun i330 x331 _ o328 hx332 h hrt => ?_)
        · obtain rfl := Option.some.inj h
          refine AConf.go sys 0 105 [] ?_
          exact AConf.fin
        · unfold Fr7_Valid.b5 at h
          refine AConf.go sys 0 105 [.e (cL GValue.cells) hx332, .l GValue.cells x331] ?_
          rcases ite_or h with ⟨hb333, h⟩ | ⟨hb333, h⟩
          · refine AConf.go sys 0 105 [.k (notT hb333)] ?_
            exact AConf.rngC h
          · obtain rfl := Option.some.inj h
            obtain rfl := hrt _ rfl
            refine AConf.go sys 0 105 [.k (notF hb333)] ?_
            refine AConf.rngR ?_
            exact AConf.fin
      · unfold Fr7_Valid.b3 at h
        obtain ⟨p282, hp283, h⟩ := bind_some h
        refine AConf.go sys 7621 104 [.e GPair.cells hx281, .call (fr6_Get_ok hp283)] ?_
        refine AConf.join (ι := Bool) (bodyOf Tryz.f51) [1, 1, 9, 1, 0, 1, 1, 1, 1, 1] (fun q296 => Fr7_Valid.j15 q296 = some o277) (fun (q296 : Bool) => ([(2, some (.ptr 100 0)), (3, some (.ptr 101 0)), (4, some (pB false)), (5, some (pI (a0.Schema.Columns.length : Int))), (6, some (.map 102)), (59, some (pL GPair.cells a1.Updated)), (60, some (pI (a1.Updated.length : Int))), (61, some (pI (i279 : Int))), (110, some (pB q296))], [(100, some (.var (GTable.pvs a0))), (101, some (.var (GChange.pvs a1))), (102, some (.mp (mrow (fun x : Int => .int .i64 x) (fun x : Bool => .bool x) s178)))])) ?_ fun q296 h => ?_
        · rcases ite_or h with ⟨hb298, h⟩ | ⟨hb298, h⟩
          · rcases ite_or h with ⟨hb299, h⟩ | ⟨hb299, h⟩
            · refine AConf.go sys 0 105 [.kk 3 (notT hb298), .lkp (ek := (fun x : Int => .int .i64 x)) (ev := (fun x : Bool => .bool x)) (z := false) Tryz.underlying175 kt3 zv4 (fun _ => rfl) s178 x280.ID, .k (notT hb298), .kk 4 hb299, .kk 11 (rfl : true = _)] ?_
              exact AConf.joinN (i := true) h
            · rcases ite_or h with ⟨hb300, h⟩ | ⟨hb300, h⟩
              · obtain ⟨x301, hv302, h⟩ := bind_some h
                rcases ite_or h with ⟨hb303, h⟩ | ⟨hb303, h⟩
                · refine AConf.go sys 0 105 [.kk 3 (notT hb298), .lkp (ek := (fun x : Int => .int .i64 x)) (ev := (fun x : Bool => .bool x)) (z := false) Tryz.underlying175 kt3 zv4 (fun _ => rfl) s178 x280.ID, .k (notT hb298), .kk 2 hb299, .kk 4 hb300, .x GPair.cells hv302, .kk 4 hb300, .k hb299, .k hb300, .k hb299, .kk 5 hb303, .kk 5 (rfl : true = _)] ?_
                  exact AConf.joinN (i := true) h
                · obtain ⟨p304, hp305, h⟩ := bind_some h
                  rcases ite_or h with ⟨hb306, h⟩ | ⟨hb306, h⟩
                  · refine AConf.go sys 0 105 [.kk 3 (notT hb298), .lkp (ek := (fun x : Int => .int .i64 x)) (ev := (fun x : Bool => .bool x)) (z := false) Tryz.underlying175 kt3 zv4 (fun _ => rfl) s178 x280.ID, .k (notT hb298), .kk 2 hb299, .kk 4 hb300, .x GPair.cells hv302, .kk 4 hb300, .k hb299, .k hb300, .k hb299, .kk 3 hb303, .call (fr1_CompareRows_ok hp305), .kk 1 hb303, .kk 2 (notT hb306), .l GValue.cells x280.New, .kk 2 (notT hb306)] ?_
                    exact AConf.joinN (i := (!decide ((x280.New.length : Int) = (a0.Schema.Columns.length : Int)))) h
                  · refine AConf.go sys 0 105 [.kk 3 (notT hb298), .lkp (ek := (fun x : Int => .int .i64 x)) (ev := (fun x : Bool => .bool x)) (z := false) Tryz.underlying175 kt3 zv4 (fun _ => rfl) s178 x280.ID, .k (notT hb298), .kk 2 hb299, .kk 4 hb300, .x GPair.cells hv302, .kk 4 hb300, .k hb299, .k hb300, .k hb299, .kk 3 hb303, .call (fr1_CompareRows_ok hp305), .kk 1 hb303, .kk 5 (notF hb306)] ?_
                    exact AConf.joinN (i := true) h
              · obtain ⟨p307, hp308, h⟩ := bind_some h
                rcases ite_or h with ⟨hb309, h⟩ | ⟨hb309, h⟩
                · refine AConf.go sys 0 105 [.kk 3 (notT hb298), .lkp (ek := (fun x : Int => .int .i64 x)) (ev := (fun x : Bool => .bool x)) (z := false) Tryz.underlying175 kt3 zv4 (fun _ => rfl) s178 x280.ID, .k (notT hb298), .kk 2 hb299, .kk 9 hb300, .k hb299, .k hb300, .k hb299, .kk 3 (rfl : false = _), .call (fr1_CompareRows_ok hp308), .kk 1 (rfl : false = _), .kk 2 (notT hb309), .l GValue.cells x280.New, .kk 2 (notT hb309)] ?_
                  exact AConf.joinN (i := (!decide ((x280.New.length : Int) = (a0.Schema.Columns.length : Int)))) h
                · refine AConf.go sys 0 105 [.kk 3 (notT hb298), .lkp (ek := (fun x : Int => .int .i64 x)) (ev := (fun x : Bool => .bool x)) (z := false) Tryz.underlying175 kt3 zv4 (fun _ => rfl) s178 x280.ID, .k (notT hb298), .kk 2 hb299, .kk 9 hb300, .k hb299, .k hb300, .k hb299, .kk 3 (rfl : false = _), .call (fr1_CompareRows_ok hp308), .kk 1 (rfl : false = _), .kk 5 (notF hb309)] ?_
                  exact AConf.joinN (i := true) h
          · refine AConf.go sys 0 105 [.kk 4 (notF hb298), .kk 16 (rfl : true = _)] ?_
            exact AConf.joinN (i := true) h
        · unfold Fr7_Valid.j15 at h
          rcases ite_or h with ⟨hb297, h⟩ | ⟨hb297, h⟩
          · obtain rfl := Option.some.inj h
            obtain rfl := hrt _ rfl
            refine AConf.go sys 0 105 [.k hb297] ?_
            refine AConf.rngR ?_
            exact AConf.fin
          · refine AConf.go sys 0 105 [.k hb297] ?_
            exact AConf.rngC h
    · unfold Fr7_Valid.b1 at h
      obtain ⟨p166, hp167, h⟩ := bind_some h
      refine AConf.go sys 5533 103 [.e cI hx153, .call (fr6_Get_ok hp167)] ?_
      refine AConf.join (ι := Bool) (bodyOf Tryz.f51) [1, 0, 1, 9, 1, 0, 1, 1, 1, 1] (fun q172 => Fr7_Valid.j11 s150 x152 q172 = some o149) (fun (q172 : Bool) => ([(2, some (.ptr 100 0)), (3, some (.ptr 101 0)), (4, some (pB false)), (5, some (pI (a0.Schema.Columns.length : Int))), (6, some (.map 102)), (8, some (pI x152)), (26, some (pL cI a1.Deleted)), (27, some (pI (a1.Deleted.length : Int))), (28, some (pI (i151 : Int))), (54, some (pB q172))], [(100, some (.var (GTable.pvs a0))), (101, some (.var (GChange.pvs a1))), (102, some (.mp (mrow (fun x : Int => .int .i64 x) (fun x : Bool => .bool x) s150)))])) ?_ fun q172 h => ?_
      · rcases ite_or h with ⟨hb174, h⟩ | ⟨hb174, h⟩
        · refine AConf.go sys 0 103 [.kk 2 (notT hb174)] ?_
          rcases ite_or h with ⟨hb175, h⟩ | ⟨hb175, h⟩
          · obtain ⟨x176, hv177, h⟩ := bind_some h
            refine AConf.go sys 0 103 [.kk 4 hb175, .x cI hv177, .kk 2 hb175, .k (notT hb174), .k hb175, .k (notT hb174)] ?_
            exact AConf.joinN (i := (decide (x152 ≤ x176))) h
          · refine AConf.go sys 0 103 [.kk 7 hb175, .k (notT hb174), .k hb175, .k (notT hb174)] ?_
            exact AConf.joinN (i := false) h
        · refine AConf.go sys 0 103 [.kk 4 (notF hb174)] ?_
          exact AConf.joinN (i := true) h
      · unfold Fr7_Valid.j11 at h
        rcases ite_or h with ⟨hb173, h⟩ | ⟨hb173, h⟩
        · obtain rfl := Option.some.inj h
          obtain rfl := hrt _ rfl
          refine AConf.go sys 0 103 [.k hb173] ?_
          refine AConf.rngR ?_
          exact AConf.fin
        · refine AConf.go sys 0 103 [.k hb173, .mup (ek := (fun x : Int => .int .i64 x)) (fun x : Bool => .bool x) Tryz.underlying175 kt3 s150 x152 true] ?_
          exact AConf.rngC h
  · obtain rfl := Option.some.inj h
    refine AConf.go sys 0 102 [.k (notF hb6)] ?_
    exact AConf.fin

-- triggerstore/triggerstoreref7.Apply
def Fr7_Apply.b1 (k : Nat) (a0 : GTable) (x33 : GPair) (i32 : Nat) (s31 : Unit) : Option (Go.Ab.Step (GTable × Int) Unit) :=
  ((Fr5_Fits k a0.Schema x33.New).bind fun p35 => (if decide (p35 = 0) = true then (some (.cont ())) else (some (.ret ((GTable.mk (GSchema.mk [] []) 0 []), p35)))))
def Fr7_Apply.b3 (k : Nat) (a0 : GTable) (x65 : List GValue) (i64 : Nat) (s63 : Unit) : Option (Go.Ab.Step (GTable × Int) Unit) :=
  ((Fr5_Fits k a0.Schema x65).bind fun p67 => (if decide (p67 = 0) = true then (some (.cont ())) else (some (.ret ((GTable.mk (GSchema.mk [] []) 0 []), p67)))))
def Fr7_Apply.j5 (k : Nat) (s181 : List GRow) (x183 : GRow) (q194 : List GValue) : Option (Go.Ab.Step (GTable × Int) (List GRow)) :=
  ((Fr5_Copy k q194).bind fun p195 => ((app 32 s181 ([(GRow.mk x183.ID p195)])).bind fun l197 => (some (.cont l197))))
def Fr7_Apply.b5 (k : Nat) (a1 : GChange) (x183 : GRow) (i182 : Nat) (s181 : List GRow) : Option (Go.Ab.Step (GTable × Int) (List GRow)) :=
  ((Fr7_has k a1.Deleted x183.ID).bind fun p188 => (if p188 = true then (some (.cont s181)) else ((Fr7_find k a1.Updated x183.ID).bind fun p199 => (if p199.2 = true then (Fr7_Apply.j5 k s181 x183 p199.1) else (Fr7_Apply.j5 k s181 x183 x183.Values)))))
def Fr7_Apply.b7 (k : Nat) (x271 : List GValue) (i270 : Nat) (s269 : Int × (List GRow) × (List GRow)) : Option (Go.Ab.Step (GTable × Int) (Int × (List GRow) × (List GRow))) :=
  ((Fr5_Copy k x271).bind fun p273 => ((app 32 s269.2.2 ([(GRow.mk s269.1 p273)])).bind fun l275 => (some (.cont (w64 (s269.1 + 1), l275, l275)))))
def Fr7_Apply.j7 (k : Nat) (a0 : GTable) (a1 : GChange) (p71 : GTable) (s202 : List GRow) (q208 : Bool) : Option (GTable × Int) :=
  (if q208 = true then (some ((GTable.mk (GSchema.mk [] []) 0 []), 10)) else ((loopL (Fr7_Apply.b7 k) a1.Inserted 0 (a0.Next, s202, s202)).bind fun out => Out.el out (fun r0 => some r0) fun s277 => ((Fr6_Duplicate k (GTable.mk p71.Schema s277.1 s277.2.2)).bind fun p281 => (if p281 = true then (some ((GTable.mk (GSchema.mk [] []) 0 []), 9)) else (some ((GTable.mk p71.Schema s277.1 s277.2.2), 0))))))
def Fr7_Apply (k : Nat) (a0 : GTable) (a1 : GChange) : Option (GTable × Int) :=
  ((Fr7_Valid k a0 a1).bind fun p4 => (if p4 = true then ((loopL (Fr7_Apply.b1 k a0) a1.Updated 0 ()).bind fun out => Out.el out (fun r0 => some r0) fun _ => ((loopL (Fr7_Apply.b3 k a0) a1.Inserted 0 ()).bind fun out => Out.el out (fun r0 => some r0) fun _ => ((Fr6_Copy k a0).bind fun p71 => ((loopL (Fr7_Apply.b5 k a1) a0.Rows 0 ([] : List GRow)).bind fun out => Out.el out (fun r0 => some r0) fun s202 => (if decide (100 < (w64 ((s202.length : Int) + (a1.Inserted.length : Int)))) = true then (Fr7_Apply.j7 k a0 a1 p71 s202 true) else (Fr7_Apply.j7 k a0 a1 p71 s202 (decide ((w64 (2147483648 - a0.Next)) < (a1.Inserted.length : Int))))))))) else (some ((GTable.mk (GSchema.mk [] []) 0 []), 17))))
theorem fr7_Apply_ok {k : Nat} {a0 : GTable} {a1 : GChange} {r : GTable × Int} (h : Fr7_Apply k a0 a1 = some r) :
    ACalls Tryz.prog gl 18 [(.agg (GTable.pvs a0)), (.agg (GChange.pvs a1))] [] (.tup [(.agg (GTable.pvs r.1)), (pI r.2)]) [] [] := by
  refine ACalls.enter sys Tryz.func18 fun w F ν => ?_
  unfold Fr7_Apply at h
  obtain ⟨p4, hp5, h⟩ := bind_some h
  refine AConf.go sys 0 100 [.call (fr7_Valid_ok hp5)] ?_
  rcases ite_or h with ⟨hb6, h⟩ | ⟨hb6, h⟩
  · refine AConf.go sys 0 103 [.k (notT hb6), .l GPair.cells a1.Updated] ?_
    refine AConf.range (bodyOf Tryz.f18) [1, 0, 1, 1] (fun (_s : Unit) => ([(2, some (.ptr 100 0)), (3, some (.ptr 101 0)), (4, some (.ptr 102 0)), (5, some (pI 0)), (26, some (pL GPair.cells a1.Updated)), (27, some (pI (a1.Updated.length : Int)))], [(100, some (.var (GTable.pvs a0))), (101, some (.var (GChange.pvs a1))), (102, some (.var [(pS []), pN, (pI 0), pN]))])) (bR 26 GPair.cells) h (fun _ h => h.symm) (fun _ h => ?_) (fun i32 x33 _ o30 hx34 h hrt => ?_)
    · refine AConf.go sys 0 105 [.l (cL GValue.cells) a1.Inserted] ?_
      refine AConf.range (bodyOf Tryz.f18) [1, 0, 1, 1, 1] (fun (_s : Unit) => ([(2, some (.ptr 100 0)), (3, some (.ptr 101 0)), (4, some (.ptr 102 0)), (5, some (pI 0)), (43, some (pL (cL GValue.cells) a1.Inserted)), (44, some (pI (a1.Inserted.length : Int)))], [(100, some (.var (GTable.pvs a0))), (101, some (.var (GChange.pvs a1))), (102, some (.var [(pS []), pN, (pI 0), pN]))])) (bR 43 (cL GValue.cells)) h (fun _ h => h.symm) (fun _ h => ?_) (fun i64 x65 _ o62 hx66 h hrt => ?_)
      · obtain ⟨p71, hp72, h⟩ := bind_some h
        refine AConf.go sys 0 105 [.call (fr6_Copy_ok hp72), .l GRow.cells a0.Rows, .ownC 8781 false 105 3 114 93 2] ?_
        refine AConf.range (bodyOf Tryz.f18) [1, 0, 1, 1, 1, 1, 1] (fun (s181 : List GRow) => ([(2, some (.ptr 100 0)), (3, some (.ptr 101 0)), (4, some (.ptr 102 0)), (5, some (pI 0)), (12, some (.ptr 105 0)), (65, some (pL GRow.cells a0.Rows)), (66, some (pI (a0.Rows.length : Int)))], [(100, some (.var (GTable.pvs a0))), (101, some (.var (GChange.pvs a1))), (102, some (.var [(pS []), pN, (pI 0), pN])), (114, some (.arr false 93 2 (s181.map GRow.cells))), (105, some (.var [(pS p71.Schema.Name), (pL GColumn.cells p71.Schema.Columns), (pI a0.Next), (.osl 114)]))])) (bR 65 GRow.cells) h (fun _ h => h.symm) (fun s202 h => ?_) (fun i182 x183 s181 o180 hx184 h hrt => ?_)
        · refine AConf.go sys 8787 118 [] ?_
          refine AConf.join (ι := Bool) (bodyOf Tryz.f18) [0, 1, 1, 1, 1, 1, 1] (fun q208 => Fr7_Apply.j7 k a0 a1 p71 s202 q208 = some r) (fun (q208 : Bool) => ([(3, some (.ptr 101 0)), (4, some (.ptr 102 0)), (5, some (pI 0)), (12, some (.ptr 105 0)), (115, some (pB q208))], [(101, some (.var (GChange.pvs a1))), (102, some (.var [(pS []), pN, (pI 0), pN])), (114, some (.arr false 93 2 (s202.map GRow.cells))), (105, some (.var [(pS p71.Schema.Name), (pL GColumn.cells p71.Schema.Columns), (pI a0.Next), (.osl 114)]))])) ?_ fun q208 h => ?_
          · refine AConf.go sys 0 126 [.l GRow.cells s202, .l (cL GValue.cells) a1.Inserted] ?_
            rcases ite_or h with ⟨hb284, h⟩ | ⟨hb284, h⟩
            · refine AConf.go sys 0 126 [.kk 7 hb284] ?_
              exact AConf.joinN (i := true) h
            · refine AConf.go sys 0 126 [.kk 2 hb284, .l (cL GValue.cells) a1.Inserted, .kk 4 hb284] ?_
              exact AConf.joinN (i := (decide ((w64 (2147483648 - a0.Next)) < (a1.Inserted.length : Int)))) h
          · unfold Fr7_Apply.j7 at h
            rcases ite_or h with ⟨hb209, h⟩ | ⟨hb209, h⟩
            · obtain rfl := Option.some.inj h
              refine AConf.go sys 0 118 [.k hb209] ?_
              exact AConf.fin
            · refine AConf.go sys 0 118 [.k hb209, .l (cL GValue.cells) a1.Inserted] ?_
              refine AConf.range (bodyOf Tryz.f18) [1, 0, 1, 1, 1, 1, 1, 1, 1] (fun (s269 : Int × (List GRow) × (List GRow)) => ([(4, some (.ptr 102 0)), (5, some (pI 0)), (12, some (.ptr 105 0)), (118, some (pL (cL GValue.cells) a1.Inserted)), (119, some (pI (a1.Inserted.length : Int)))], [(102, some (.var [(pS []), pN, (pI 0), pN])), (114, some (.arr false 93 2 (s269.2.2.map GRow.cells))), (105, some (.var [(pS p71.Schema.Name), (pL GColumn.cells p71.Schema.Columns), (pI s269.1), (.osl 114)]))])) (bR 118 (cL GValue.cells)) h (fun _ h => h.symm) (fun s277 h => ?_) (fun i270 x271 s269 o268 hx272 h hrt => ?_)
              · obtain ⟨p281, hp282, h⟩ := bind_some h
                refine AConf.go sys 0 126 [.call (fr6_Duplicate_ok hp282)] ?_
                rcases ite_or h with ⟨hb283, h⟩ | ⟨hb283, h⟩
                · obtain rfl := Option.some.inj h
                  refine AConf.go sys 0 126 [.k hb283] ?_
                  exact AConf.fin
                · obtain rfl := Option.some.inj h
                  refine AConf.go sys 0 126 [.k hb283, .frz 9630 114] ?_
                  exact AConf.fin
              · unfold Fr7_Apply.b7 at h
                obtain ⟨p273, hp274, h⟩ := bind_some h
                obtain ⟨l275, hv276, h⟩ := bind_some h
                refine AConf.go sys 0 124 [.e (cL GValue.cells) hx272, .call (fr5_Copy_ok hp274), .b false GRow.cells ([(GRow.mk s269.1 p273)]), .a false GRow.cells_len hv276, .kp 5 [4, 5, 12, 118, 119, 120] [102, 105, 125], .ren 5 125 114] ?_
                exact AConf.rngC h
        · unfold Fr7_Apply.b5 at h
          obtain ⟨p188, hp189, h⟩ := bind_some h
          refine AConf.go sys 0 115 [.e GRow.cells hx184, .call (fr7_has_ok hp189)] ?_
          rcases ite_or h with ⟨hb190, h⟩ | ⟨hb190, h⟩
          · refine AConf.go sys 0 116 [.k hb190] ?_
            exact AConf.rngC h
          · refine AConf.go sys 4483 116 [.k hb190] ?_
            refine AConf.join (ι := List GValue) (bodyOf Tryz.f18) [1, 1, 1, 9, 1, 0, 1, 1, 1, 1, 1] (fun q194 => Fr7_Apply.j5 k s181 x183 q194 = some o180) (fun (q194 : List GValue) => ([(2, some (.ptr 100 0)), (3, some (.ptr 101 0)), (4, some (.ptr 102 0)), (5, some (pI 0)), (12, some (.ptr 105 0)), (14, some (.ptr 115 0)), (15, some (pL GValue.cells q194)), (65, some (pL GRow.cells a0.Rows)), (66, some (pI (a0.Rows.length : Int))), (67, some (pI (i182 : Int)))], [(100, some (.var (GTable.pvs a0))), (101, some (.var (GChange.pvs a1))), (102, some (.var [(pS []), pN, (pI 0), pN])), (114, some (.arr false 93 2 (s181.map GRow.cells))), (105, some (.var [(pS p71.Schema.Name), (pL GColumn.cells p71.Schema.Columns), (pI a0.Next), (.osl 114)])), (115, some (.var (GRow.pvs x183)))])) ?_ fun q194 h => ?_
            · obtain ⟨p199, hp200, h⟩ := bind_some h
              refine AConf.go sys 0 118 [.call (fr7_find_ok hp200)] ?_
              rcases ite_or h with ⟨hb201, h⟩ | ⟨hb201, h⟩
              · refine AConf.go sys 0 118 [.k hb201] ?_
                exact AConf.joinN (i := p199.1) h
              · refine AConf.go sys 0 118 [.k hb201] ?_
                exact AConf.joinN (i := x183.Values) h
            · unfold Fr7_Apply.j5 at h
              obtain ⟨p195, hp196, h⟩ := bind_some h
              obtain ⟨l197, hv198, h⟩ := bind_some h
              refine AConf.go sys 0 116 [.call (fr5_Copy_ok hp196), .b false GRow.cells ([(GRow.mk x183.ID p195)]), .a false GRow.cells_len hv198, .kp 11 [2, 3, 4, 5, 12, 65, 66, 67] [100, 101, 102, 105, 117], .ren 11 117 114] ?_
              exact AConf.rngC h
      · unfold Fr7_Apply.b3 at h
        obtain ⟨p67, hp68, h⟩ := bind_some h
        refine AConf.go sys 0 105 [.e (cL GValue.cells) hx66, .call (fr5_Fits_ok hp68)] ?_
        rcases ite_or h with ⟨hb69, h⟩ | ⟨hb69, h⟩
        · refine AConf.go sys 0 105 [.k (notT hb69)] ?_
          exact AConf.rngC h
        · obtain rfl := Option.some.inj h
          obtain rfl := hrt _ rfl
          refine AConf.go sys 0 105 [.k (notF hb69)] ?_
          refine AConf.rngR ?_
          exact AConf.fin
    · unfold Fr7_Apply.b1 at h
      obtain ⟨p35, hp36, h⟩ := bind_some h
      refine AConf.go sys 0 104 [.e GPair.cells hx34, .call (fr5_Fits_ok hp36)] ?_
      rcases ite_or h with ⟨hb37, h⟩ | ⟨hb37, h⟩
      · refine AConf.go sys 0 105 [.k (notT hb37)] ?_
        exact AConf.rngC h
      · obtain rfl := Option.some.inj h
        obtain rfl := hrt _ rfl
        refine AConf.go sys 0 105 [.k (notF hb37)] ?_
        refine AConf.rngR ?_
        exact AConf.fin
  · obtain rfl := Option.some.inj h
    refine AConf.go sys 0 103 [.k (notF hb6)] ?_
    exact AConf.fin

-- triggerstore/triggerstoreref8.Empty
def Fr8_Empty (k : Nat) (a0 : GDelta) : Option Bool :=
  (some (decide ((w64 ((w64 ((a0.Inserted.length : Int) + (a0.Deleted.length : Int))) + (a0.Updated.length : Int))) = 0)))
theorem fr8_Empty_ok {k : Nat} {a0 : GDelta} {r : Bool} (h : Fr8_Empty k a0 = some r) :
    ACalls Tryz.prog gl 61 [(.agg (GDelta.pvs a0))] [] (pB r) [] [] := by
  refine ACalls.enter sys Tryz.func61 fun w F ν => ?_
  unfold Fr8_Empty at h
  obtain rfl := Option.some.inj h
  refine AConf.go sys 0 100 [.l GRow.cells a0.Inserted, .l GRow.cells a0.Deleted, .l GPair.cells a0.Updated] ?_
  exact AConf.fin

-- triggerstore/triggerstoreref9.Valid
def Fr9_Valid.j3 (q70 : Bool) : Option (Go.Ab.Step Bool Unit) :=
  (if q70 = true then (some (.ret false)) else (some (.cont ())))
def Fr9_Valid.b1 (k : Nat) (a0 : List GTable) (x62 : GTable) (i61 : Nat) (s60 : Unit) : Option (Go.Ab.Step Bool Unit) :=
  ((Fr6_Valid k x62).bind fun p72 => (if p72 = true then (if decide (0 < (i61 : Int)) = true then ((idx a0 (w64 ((i61 : Int) - 1))).bind fun x76 => (Fr9_Valid.j3 (!(Op.bytesLess x76.Schema.Name x62.Schema.Name)))) else (Fr9_Valid.j3 false)) else (Fr9_Valid.j3 true)))
def Fr9_Valid (k : Nat) (a0 : List GTable) : Option Bool :=
  (if decide (6 < (a0.length : Int)) = true then (some false) else ((loopL (Fr9_Valid.b1 k a0) a0 0 ()).bind fun out => Out.el out (fun r0 => some r0) fun _ => (some true)))
theorem fr9_Valid_ok {k : Nat} {a0 : List GTable} {r : Bool} (h : Fr9_Valid k a0 = some r) :
    ACalls Tryz.prog gl 59 [(pL GTable.cells a0)] [] (pB r) [] [] := by
  refine ACalls.enter sys Tryz.func59 fun w F ν => ?_
  unfold Fr9_Valid at h
  refine AConf.go sys 0 100 [.l GTable.cells a0] ?_
  rcases ite_or h with ⟨hb2, h⟩ | ⟨hb2, h⟩
  · obtain rfl := Option.some.inj h
    refine AConf.go sys 0 100 [.k hb2] ?_
    exact AConf.fin
  · refine AConf.go sys 0 100 [.k hb2, .l GTable.cells a0] ?_
    refine AConf.range (bodyOf Tryz.f59) [1, 0, 1, 1] (fun (_s : Unit) => ([(0, some (pL GTable.cells a0)), (2, some (pB false)), (8, some (pI (a0.length : Int)))], [])) (bR 0 GTable.cells) h (fun _ h => h.symm) (fun _ h => ?_) (fun i61 x62 _ o59 hx63 h hrt => ?_)
    · obtain rfl := Option.some.inj h
      refine AConf.go sys 0 100 [] ?_
      exact AConf.fin
    · unfold Fr9_Valid.b1 at h
      refine AConf.go sys 7949 100 [] ?_
      refine AConf.join (ι := Bool) (bodyOf Tryz.f59) [1, 9, 1, 0, 1, 1] (fun q70 => Fr9_Valid.j3 q70 = some o59) (fun (q70 : Bool) => ([(0, some (pL GTable.cells a0)), (2, some (pB false)), (8, some (pI (a0.length : Int))), (9, some (pI (i61 : Int))), (37, some (pB q70))], [])) ?_ fun q70 h => ?_
      · obtain ⟨p72, hp73, h⟩ := bind_some h
        rcases ite_or h with ⟨hb74, h⟩ | ⟨hb74, h⟩
        · rcases ite_or h with ⟨hb75, h⟩ | ⟨hb75, h⟩
          · obtain ⟨x76, hv77, h⟩ := bind_some h
            refine AConf.go sys 0 100 [.e GTable.cells hx63, .call (fr6_Valid_ok hp73), .kk 2 (notT hb74), .kk 3 hb75, .x GTable.cells hv77, .kk 5 hb75, .e GTable.cells hx63, .kk 3 hb75, .k (notT hb74), .k hb75, .k (notT hb74)] ?_
            exact AConf.joinN (i := (!(Op.bytesLess x76.Schema.Name x62.Schema.Name))) h
          · refine AConf.go sys 0 100 [.e GTable.cells hx63, .call (fr6_Valid_ok hp73), .kk 2 (notT hb74), .kk 13 hb75, .k (notT hb74), .k hb75, .k (notT hb74)] ?_
            exact AConf.joinN (i := false) h
        · refine AConf.go sys 0 100 [.e GTable.cells hx63, .call (fr6_Valid_ok hp73), .kk 4 (notF hb74)] ?_
          exact AConf.joinN (i := true) h
      · unfold Fr9_Valid.j3 at h
        rcases ite_or h with ⟨hb71, h⟩ | ⟨hb71, h⟩
        · obtain rfl := Option.some.inj h
          obtain rfl := hrt _ rfl
          refine AConf.go sys 0 100 [.k hb71] ?_
          refine AConf.rngR ?_
          exact AConf.fin
        · refine AConf.go sys 0 100 [.k hb71] ?_
          exact AConf.rngC h

-- triggerstore/triggerstoreref8.sameSchema
def Fr8_sameSchema.b1 (a1 : GSchema) (x34 : GColumn) (i33 : Nat) (s32 : Unit) : Option (Go.Ab.Step Bool Unit) :=
  ((idx a1.Columns (i33 : Int)).bind fun x36 => (if decide (x34 = x36) = true then (some (.cont ())) else (some (.ret false))))
def Fr8_sameSchema.j1 (a0 : GSchema) (a1 : GSchema) (q6 : Bool) : Option Bool :=
  (if q6 = true then (some false) else ((loopL (Fr8_sameSchema.b1 a1) a0.Columns 0 ()).bind fun out => Out.el out (fun r0 => some r0) fun _ => (some true)))
def Fr8_sameSchema (k : Nat) (a0 : GSchema) (a1 : GSchema) : Option Bool :=
  (if decide (a0.Name = a1.Name) = true then (Fr8_sameSchema.j1 a0 a1 (!decide ((a0.Columns.length : Int) = (a1.Columns.length : Int)))) else (Fr8_sameSchema.j1 a0 a1 true))
theorem fr8_sameSchema_ok {k : Nat} {a0 : GSchema} {a1 : GSchema} {r : Bool} (h : Fr8_sameSchema k a0 a1 = some r) :
    ACalls Tryz.prog gl 100 [(.agg (GSchema.pvs a0)), (.agg (GSchema.pvs a1))] [] (pB r) [] [] := by
  refine ACalls.enter sys Tryz.func100 fun w F ν => ?_
  unfold Fr8_sameSchema at h
  refine AConf.go sys 7142 100 [] ?_
  refine AConf.join (ι := Bool) (bodyOf Tryz.f100) [0, 1] (fun q6 => Fr8_sameSchema.j1 a0 a1 q6 = some r) (fun (q6 : Bool) => ([(2, some (.ptr 100 0)), (3, some (.ptr 101 0)), (4, some (pB false)), (19, some (pB q6))], [(100, some (.var (GSchema.pvs a0))), (101, some (.var (GSchema.pvs a1)))])) ?_ fun q6 h => ?_
  · rcases ite_or h with ⟨hb40, h⟩ | ⟨hb40, h⟩
    · refine AConf.go sys 0 102 [.kk 2 (notT hb40), .l GColumn.cells a0.Columns, .kk 2 (notT hb40), .l GColumn.cells a1.Columns, .kk 1 (notT hb40)] ?_
      exact AConf.joinN (i := (!decide ((a0.Columns.length : Int) = (a1.Columns.length : Int)))) h
    · refine AConf.go sys 0 102 [.kk 7 (notF hb40)] ?_
      exact AConf.joinN (i := true) h
  · unfold Fr8_sameSchema.j1 at h
    rcases ite_or h with ⟨hb7, h⟩ | ⟨hb7, h⟩
    · obtain rfl := Option.some.inj h
      refine AConf.go sys 0 102 [.k hb7] ?_
      exact AConf.fin
    · refine AConf.go sys 0 102 [.k hb7, .l GColumn.cells a0.Columns] ?_
      refine AConf.range (bodyOf Tryz.f100) [1, 0, 1, 1] (fun (_s : Unit) => ([(2, some (.ptr 100 0)), (3, some (.ptr 101 0)), (4, some (pB false)), (22, some (pI (a0.Columns.length : Int)))], [(100, some (.var (GSchema.pvs a0))), (101, some (.var (GSchema.pvs a1)))])) (bR 21 GColumn.cells) h (fun _ h => h.symm) (fun _ h => ?_) (fun i33 x34 _ o31 hx35 h hrt => ?_)
      · obtain rfl := Option.some.inj h
        refine AConf.go sys 0 102 [] ?_
        exact AConf.fin
      · unfold Fr8_sameSchema.b1 at h
        obtain ⟨x36, hv37, h⟩ := bind_some h
        refine AConf.go sys 0 102 [.e GColumn.cells hx35, .x GColumn.cells hv37, .eq eg98 (eq98 x34 x36)] ?_
        rcases ite_or h with ⟨hb38, h⟩ | ⟨hb38, h⟩
        · refine AConf.go sys 0 102 [.k (notT hb38)] ?_
          exact AConf.rngC h
        · obtain rfl := Option.some.inj h
          obtain rfl := hrt _ rfl
          refine AConf.go sys 0 102 [.k (notF hb38)] ?_
          refine AConf.rngR ?_
          exact AConf.fin

-- triggerstore/triggerstoreref8.copyRow
def Fr8_copyRow (k : Nat) (a0 : GRow) : Option GRow :=
  ((Fr5_Copy k a0.Values).bind fun p1 => (some (GRow.mk a0.ID p1)))
theorem fr8_copyRow_ok {k : Nat} {a0 : GRow} {r : GRow} (h : Fr8_copyRow k a0 = some r) :
    ACalls Tryz.prog gl 101 [(.agg (GRow.pvs a0))] [] (.agg (GRow.pvs r)) [] [] := by
  refine ACalls.enter sys Tryz.func101 fun w F ν => ?_
  unfold Fr8_copyRow at h
  obtain ⟨p1, hp2, h⟩ := bind_some h
  obtain rfl := Option.some.inj h
  refine AConf.go sys 0 100 [.call (fr5_Copy_ok hp2)] ?_
  exact AConf.fin

-- triggerstore/triggerstoreref8.Between
def Fr8_Between.j13 (k : Nat) (s165 : (List GRow) × (List GPair)) (x167 : GRow) (p169 : (List GValue) × Bool) (q176 : Bool) : Option (Go.Ab.Step (GDelta × Bool) ((List GRow) × (List GPair))) :=
  (if q176 = true then (some (.ret ((GDelta.mk [] [] [] []), false))) else (if p169.2 = true then ((Fr1_CompareRows k p169.1 x167.Values).bind fun p179 => (if decide (p179 = 0) = true then (some (.cont (s165.1, s165.2))) else ((Fr5_Copy k x167.Values).bind fun p182 => ((app 56 s165.2 ([(GPair.mk x167.ID p169.1 p182)])).bind fun l184 => (some (.cont (s165.1, l184))))))) else ((Fr8_copyRow k x167).bind fun p186 => ((app 32 s165.1 ([p186])).bind fun l188 => (some (.cont (l188, s165.2)))))))
def Fr8_Between.b1 (k : Nat) (a0 : GTable) (x167 : GRow) (i166 : Nat) (s165 : (List GRow) × (List GPair)) : Option (Go.Ab.Step (GDelta × Bool) ((List GRow) × (List GPair))) :=
  ((Fr6_Get k a0 x167.ID).bind fun p169 => (if p169.2 = true then (Fr8_Between.j13 k s165 x167 p169 false) else (Fr8_Between.j13 k s165 x167 p169 (decide (x167.ID < a0.Next)))))
def Fr8_Between.b3 (k : Nat) (a1 : GTable) (x252 : GRow) (i251 : Nat) (s250 : List GRow) : Option (Go.Ab.Step (GDelta × Bool) (List GRow)) :=
  ((Fr6_Get k a1 x252.ID).bind fun p254 => (if p254.2 = true then (some (.cont s250)) else ((Fr8_copyRow k x252).bind fun p257 => ((app 32 s250 ([p257])).bind fun l259 => (some (.cont l259))))))
def Fr8_Between.j1 (k : Nat) (a0 : GTable) (a1 : GTable) (q30 : Bool) : Option (GDelta × Bool) :=
  (if q30 = true then (some ((GDelta.mk [] [] [] []), false)) else ((loopL (Fr8_Between.b1 k a0) a1.Rows 0 (([] : List GRow), ([] : List GPair))).bind fun out => Out.el out (fun r0 => some r0) fun s191 => ((loopL (Fr8_Between.b3 k a1) a0.Rows 0 ([] : List GRow)).bind fun out => Out.el out (fun r0 => some r0) fun s261 => (some ((GDelta.mk a0.Schema.Name s191.1 s261 s191.2), true)))))
def Fr8_Between (k : Nat) (a0 : GTable) (a1 : GTable) : Option (GDelta × Bool) :=
  ((Fr6_Valid k a0).bind fun p262 => (if p262 = true then ((Fr6_Valid k a1).bind fun p265 => (if p265 = true then ((Fr8_sameSchema k a0.Schema a1.Schema).bind fun p268 => (if p268 = true then (Fr8_Between.j1 k a0 a1 (decide (a1.Next < a0.Next))) else (Fr8_Between.j1 k a0 a1 true))) else (Fr8_Between.j1 k a0 a1 true))) else (Fr8_Between.j1 k a0 a1 true)))
theorem fr8_Between_ok {k : Nat} {a0 : GTable} {a1 : GTable} {r : GDelta × Bool} (h : Fr8_Between k a0 a1 = some r) :
    ACalls Tryz.prog gl 60 [(.agg (GTable.pvs a0)), (.agg (GTable.pvs a1))] [] (.tup [(.agg (GDelta.pvs r.1)), (pB r.2)]) [] [] := by
  refine ACalls.enter sys Tryz.func60 fun w F ν => ?_
  unfold Fr8_Between at h
  refine AConf.go sys 7142 100 [] ?_
  refine AConf.join (ι := Bool) (bodyOf Tryz.f60) [0, 1] (fun q30 => Fr8_Between.j1 k a0 a1 q30 = some r) (fun (q30 : Bool) => ([(2, some (.ptr 100 0)), (3, some (.ptr 101 0)), (4, some (.ptr 102 0)), (5, some (pB false)), (37, some (pB q30))], [(100, some (.var (GTable.pvs a0))), (101, some (.var (GTable.pvs a1))), (102, some (.var [(pS []), pN, pN, pN]))])) ?_ fun q30 h => ?_
  · obtain ⟨p262, hp263, h⟩ := bind_some h
    refine AConf.go sys 0 131 [.call (fr6_Valid_ok hp263)] ?_
    rcases ite_or h with ⟨hb264, h⟩ | ⟨hb264, h⟩
    · obtain ⟨p265, hp266, h⟩ := bind_some h
      refine AConf.go sys 0 131 [.kk 1 (notT hb264), .call (fr6_Valid_ok hp266), .kk 1 (notT hb264)] ?_
      rcases ite_or h with ⟨hb267, h⟩ | ⟨hb267, h⟩
      · obtain ⟨p268, hp269, h⟩ := bind_some h
        refine AConf.go sys 0 131 [.kk 4 (notT hb267), .call (fr8_sameSchema_ok hp269), .kk 1 (notT hb267)] ?_
        rcases ite_or h with ⟨hb270, h⟩ | ⟨hb270, h⟩
        · refine AConf.go sys 0 131 [.kk 5 (notT hb270)] ?_
          exact AConf.joinN (i := (decide (a1.Next < a0.Next))) h
        · refine AConf.go sys 0 131 [.kk 5 (notF hb270)] ?_
          exact AConf.joinN (i := true) h
      · refine AConf.go sys 0 131 [.kk 6 (notF hb267), .kk 5 (rfl : true = _)] ?_
        exact AConf.joinN (i := true) h
    · refine AConf.go sys 0 131 [.kk 3 (notF hb264), .kk 12 (rfl : true = _)] ?_
      exact AConf.joinN (i := true) h
  · unfold Fr8_Between.j1 at h
    rcases ite_or h with ⟨hb31, h⟩ | ⟨hb31, h⟩
    · obtain rfl := Option.some.inj h
      refine AConf.go sys 0 103 [.k hb31] ?_
      exact AConf.fin
    · refine AConf.go sys 0 103 [.k hb31, .l GRow.cells a1.Rows, .ownC 3876 false 103 1 114 93 2, .ownC 3876 false 103 3 115 84 3] ?_
      refine AConf.range (bodyOf Tryz.f60) [1, 0, 1, 1, 1] (fun (s165 : (List GRow) × (List GPair)) => ([(2, some (.ptr 100 0)), (3, some (.ptr 101 0)), (4, some (.ptr 102 0)), (5, some (pB false)), (6, some (.ptr 103 0)), (44, some (pL GRow.cells a1.Rows)), (45, some (pI (a1.Rows.length : Int)))], [(100, some (.var (GTable.pvs a0))), (101, some (.var (GTable.pvs a1))), (102, some (.var [(pS []), pN, pN, pN])), (114, some (.arr false 93 2 (s165.1.map GRow.cells))), (115, some (.arr false 84 3 (s165.2.map GPair.cells))), (103, some (.var [(pS a0.Schema.Name), (.osl 114), pN, (.osl 115)]))])) (bR 44 GRow.cells) h (fun _ h => h.symm) (fun s191 h => ?_) (fun i166 x167 s165 o164 hx168 h hrt => ?_)
      · refine AConf.go sys 0 119 [.l GRow.cells a0.Rows, .ownC 8229 false 103 2 127 93 2] ?_
        refine AConf.range (bodyOf Tryz.f60) [1, 0, 1, 1, 1, 1] (fun (s250 : List GRow) => ([(3, some (.ptr 101 0)), (4, some (.ptr 102 0)), (5, some (pB false)), (6, some (.ptr 103 0)), (95, some (pL GRow.cells a0.Rows)), (96, some (pI (a0.Rows.length : Int)))], [(101, some (.var (GTable.pvs a1))), (102, some (.var [(pS []), pN, pN, pN])), (114, some (.arr false 93 2 (s191.1.map GRow.cells))), (127, some (.arr false 93 2 (s250.map GRow.cells))), (115, some (.arr false 84 3 (s191.2.map GPair.cells))), (103, some (.var [(pS a0.Schema.Name), (.osl 114), (.osl 127), (.osl 115)]))])) (bR 95 GRow.cells) h (fun _ h => h.symm) (fun s261 h => ?_) (fun i251 x252 s250 o249 hx253 h hrt => ?_)
        · obtain rfl := Option.some.inj h
          refine AConf.go sys 0 131 [.frz 8236 114, .frz 8236 127, .frz 8236 115] ?_
          exact AConf.fin
        · unfold Fr8_Between.b3 at h
          obtain ⟨p254, hp255, h⟩ := bind_some h
          refine AConf.go sys 0 128 [.e GRow.cells hx253, .call (fr6_Get_ok hp255)] ?_
          rcases ite_or h with ⟨hb256, h⟩ | ⟨hb256, h⟩
          · refine AConf.go sys 0 129 [.k (notT hb256)] ?_
            exact AConf.rngC h
          · obtain ⟨p257, hp258, h⟩ := bind_some h
            obtain ⟨l259, hv260, h⟩ := bind_some h
            refine AConf.go sys 0 129 [.k (notF hb256), .call (fr8_copyRow_ok hp258), .b false GRow.cells ([p257]), .a false GRow.cells_len hv260, .kp 8 [3, 4, 5, 6, 95, 96, 97] [101, 102, 103, 114, 115, 130], .ren 8 130 127] ?_
            exact AConf.rngC h
      · unfold Fr8_Between.b1 at h
        obtain ⟨p169, hp170, h⟩ := bind_some h
        refine AConf.go sys 5690 116 [.e GRow.cells hx168, .call (fr6_Get_ok hp170)] ?_
        refine AConf.join (ι := Bool) (bodyOf Tryz.f60) [0, 1, 1, 9, 1, 0, 1, 1, 1] (fun q176 => Fr8_Between.j13 k s165 x167 p169 q176 = some o164) (fun (q176 : Bool) => ([(2, some (.ptr 100 0)), (3, some (.ptr 101 0)), (4, some (.ptr 102 0)), (5, some (pB false)), (6, some (.ptr 103 0)), (8, some (.ptr 116 0)), (9, some (pL GValue.cells p169.1)), (10, some (pB p169.2)), (44, some (pL GRow.cells a1.Rows)), (45, some (pI (a1.Rows.length : Int))), (46, some (pI (i166 : Int))), (65, some (pB q176))], [(100, some (.var (GTable.pvs a0))), (101, some (.var (GTable.pvs a1))), (102, some (.var [(pS []), pN, pN, pN])), (114, some (.arr false 93 2 (s165.1.map GRow.cells))), (115, some (.arr false 84 3 (s165.2.map GPair.cells))), (103, some (.var [(pS a0.Schema.Name), (.osl 114), pN, (.osl 115)])), (116, some (.var (GRow.pvs x167)))])) ?_ fun q176 h => ?_
        · rcases ite_or h with ⟨hb190, h⟩ | ⟨hb190, h⟩
          · refine AConf.go sys 0 119 [.kk 5 (notT hb190)] ?_
            exact AConf.joinN (i := false) h
          · refine AConf.go sys 0 119 [.kk 5 (notF hb190)] ?_
            exact AConf.joinN (i := (decide (x167.ID < a0.Next))) h
        · unfold Fr8_Between.j13 at h
          rcases ite_or h with ⟨hb177, h⟩ | ⟨hb177, h⟩
          · obtain rfl := Option.some.inj h
            obtain rfl := hrt _ rfl
            refine AConf.go sys 0 117 [.k hb177] ?_
            refine AConf.rngR ?_
            exact AConf.fin
          · refine AConf.go sys 0 117 [.k hb177] ?_
            rcases ite_or h with ⟨hb178, h⟩ | ⟨hb178, h⟩
            · obtain ⟨p179, hp180, h⟩ := bind_some h
              refine AConf.go sys 0 117 [.k (notT hb178), .call (fr1_CompareRows_ok hp180)] ?_
              rcases ite_or h with ⟨hb181, h⟩ | ⟨hb181, h⟩
              · refine AConf.go sys 0 117 [.k (notT hb181)] ?_
                exact AConf.rngC h
              · obtain ⟨p182, hp183, h⟩ := bind_some h
                obtain ⟨l184, hv185, h⟩ := bind_some h
                refine AConf.go sys 0 117 [.k (notF hb181), .call (fr5_Copy_ok hp183), .b false GPair.cells ([(GPair.mk x167.ID p169.1 p182)]), .a false GPair.cells_len hv185, .kp 13 [2, 3, 4, 5, 6, 44, 45, 46] [100, 101, 102, 103, 114, 118], .ren 13 118 115] ?_
                exact AConf.rngC h
            · obtain ⟨p186, hp187, h⟩ := bind_some h
              obtain ⟨l188, hv189, h⟩ := bind_some h
              refine AConf.go sys 0 117 [.k (notF hb178), .call (fr8_copyRow_ok hp187), .b false GRow.cells ([p186]), .a false GRow.cells_len hv189, .kp 8 [2, 3, 4, 5, 6, 44, 45, 46] [100, 101, 102, 103, 115, 118], .ren 8 118 114] ?_
              exact AConf.rngC h

-- triggerstore/triggerstoreref9.Deltas
def Fr9_Deltas.b1 (k : Nat) (a1 : List GTable) (x103 : GTable) (i102 : Nat) (s101 : List GDelta) : Option (Go.Ab.Step ((List GDelta) × Bool) (List GDelta)) :=
  ((idx a1 (i102 : Int)).bind fun x105 => ((Fr8_Between k x103 x105).bind fun p107 => (if p107.2 = true then ((Fr8_Empty k p107.1).bind fun p111 => (if p111 = true then (some (.cont s101)) else ((app 88 s101 ([p107.1])).bind fun l114 => (some (.cont l114))))) else (some (.ret ([], false))))))
def Fr9_Deltas.j1 (k : Nat) (a0 : List GTable) (a1 : List GTable) (q21 : Bool) : Option ((List GDelta) × Bool) :=
  (if q21 = true then (some ([], false)) else ((loopL (Fr9_Deltas.b1 k a1) a0 0 ([] : List GDelta)).bind fun out => Out.el out (fun r0 => some r0) fun s116 => (some (s116, true))))
def Fr9_Deltas (k : Nat) (a0 : List GTable) (a1 : List GTable) : Option ((List GDelta) × Bool) :=
  ((Fr9_Valid k a0).bind fun p117 => (if p117 = true then ((Fr9_Valid k a1).bind fun p120 => (if p120 = true then (Fr9_Deltas.j1 k a0 a1 (!decide ((a0.length : Int) = (a1.length : Int)))) else (Fr9_Deltas.j1 k a0 a1 true))) else (Fr9_Deltas.j1 k a0 a1 true)))
theorem fr9_Deltas_ok {k : Nat} {a0 : List GTable} {a1 : List GTable} {r : (List GDelta) × Bool} (h : Fr9_Deltas k a0 a1 = some r) :
    ACalls Tryz.prog gl 20 [(pL GTable.cells a0), (pL GTable.cells a1)] [] (.tup [(pL GDelta.cells r.1), (pB r.2)]) [] [] := by
  refine ACalls.enter sys Tryz.func20 fun w F ν => ?_
  unfold Fr9_Deltas at h
  refine AConf.go sys 7142 100 [] ?_
  refine AConf.join (ι := Bool) (bodyOf Tryz.f20) [0, 1] (fun q21 => Fr9_Deltas.j1 k a0 a1 q21 = some r) (fun (q21 : Bool) => ([(0, some (pL GTable.cells a0)), (1, some (pL GTable.cells a1)), (4, some pN), (5, some (pB false)), (24, some (pB q21))], [])) ?_ fun q21 h => ?_
  · obtain ⟨p117, hp118, h⟩ := bind_some h
    refine AConf.go sys 0 112 [.call (fr9_Valid_ok hp118)] ?_
    rcases ite_or h with ⟨hb119, h⟩ | ⟨hb119, h⟩
    · obtain ⟨p120, hp121, h⟩ := bind_some h
      refine AConf.go sys 0 112 [.kk 1 (notT hb119), .call (fr9_Valid_ok hp121), .kk 1 (notT hb119)] ?_
      rcases ite_or h with ⟨hb122, h⟩ | ⟨hb122, h⟩
      · refine AConf.go sys 0 112 [.kk 1 (notT hb122), .l GTable.cells a0, .kk 1 (notT hb122), .l GTable.cells a1, .kk 1 (notT hb122)] ?_
        exact AConf.joinN (i := (!decide ((a0.length : Int) = (a1.length : Int)))) h
      · refine AConf.go sys 0 112 [.kk 5 (notF hb122)] ?_
        exact AConf.joinN (i := true) h
    · refine AConf.go sys 0 112 [.kk 3 (notF hb119), .kk 5 (rfl : true = _)] ?_
      exact AConf.joinN (i := true) h
  · unfold Fr9_Deltas.j1 at h
    rcases ite_or h with ⟨hb22, h⟩ | ⟨hb22, h⟩
    · obtain rfl := Option.some.inj h
      refine AConf.go sys 0 100 [.k hb22] ?_
      exact AConf.fin
    · refine AConf.go sys 0 100 [.k hb22, .l GTable.cells a0, .ownR 3876 false 6 108 44 4] ?_
      refine AConf.range (bodyOf Tryz.f20) [1, 0, 1, 1, 1] (fun (s101 : List GDelta) => ([(0, some (pL GTable.cells a0)), (1, some (pL GTable.cells a1)), (4, some pN), (5, some (pB false)), (6, some (.osl 108)), (26, some (pI (a0.length : Int)))], [(108, some (.arr false 44 4 (s101.map GDelta.cells)))])) (bR 0 GTable.cells) h (fun _ h => h.symm) (fun s116 h => ?_) (fun i102 x103 s101 o100 hx104 h hrt => ?_)
      · obtain rfl := Option.some.inj h
        refine AConf.go sys 0 112 [.frz 3883 108] ?_
        exact AConf.fin
      · unfold Fr9_Deltas.b1 at h
        obtain ⟨x105, hv106, h⟩ := bind_some h
        obtain ⟨p107, hp108, h⟩ := bind_some h
        refine AConf.go sys 0 109 [.e GTable.cells hx104, .x GTable.cells hv106, .call (fr8_Between_ok hp108)] ?_
        rcases ite_or h with ⟨hb110, h⟩ | ⟨hb110, h⟩
        · obtain ⟨p111, hp112, h⟩ := bind_some h
          refine AConf.go sys 0 110 [.k (notT hb110), .call (fr8_Empty_ok hp112)] ?_
          rcases ite_or h with ⟨hb113, h⟩ | ⟨hb113, h⟩
          · refine AConf.go sys 0 110 [.k (notT hb113)] ?_
            exact AConf.rngC h
          · obtain ⟨l114, hv115, h⟩ := bind_some h
            refine AConf.go sys 0 110 [.k (notF hb113), .b false GDelta.cells ([p107.1]), .a false GDelta.cells_len hv115, .kp 5 [0, 1, 4, 5, 6, 26, 27] [111], .ren 5 111 108] ?_
            exact AConf.rngC h
        · obtain rfl := Option.some.inj h
          obtain rfl := hrt _ rfl
          refine AConf.go sys 0 110 [.k (notF hb110)] ?_
          refine AConf.rngR ?_
          exact AConf.fin

-- (*triggerstore/triggerstoreworld.Tape).Row
def Fw_Tape_Row.j33 (s234 : (List GValue) × GTape) (q259 : GTape × Int × Int × (List UInt8)) : Option (Go.Ab.Step ((List GValue) × GTape) ((List GValue) × GTape)) :=
  ((app 32 s234.1 ([(GValue.mk q259.2.1 q259.2.2.1 q259.2.2.2)])).bind fun l260 => (some (.cont (l260, (q259.1)))))
def Fw_Tape_Row.j34 (s234 : (List GValue) × GTape) (p238 : GValue × GTape) (q250 : GTape × Int) (q265 : Bool × GTape) : Option (Go.Ab.Step ((List GValue) × GTape) ((List GValue) × GTape)) :=
  (if q265.1 = true then (Fw_Tape_Row.j33 s234 ((q265.2), 0, 0, [])) else (Fw_Tape_Row.j33 s234 ((q265.2), p238.1.Kind, q250.2, p238.1.Text)))
def Fw_Tape_Row.j31 (k : Nat) (s234 : (List GValue) × GTape) (x236 : GColumn) (p238 : GValue × GTape) (q250 : GTape × Int) : Option (Go.Ab.Step ((List GValue) × GTape) ((List GValue) × GTape)) :=
  (if x236.NotNull = true then (Fw_Tape_Row.j34 s234 p238 q250 (false, (q250.1))) else ((Fw_Tape_Bool k (q250.1) 5).bind fun p268 => (Fw_Tape_Row.j34 s234 p238 q250 (p268.1, p268.2))))
def Fw_Tape_Row.j35 (k : Nat) (s234 : (List GValue) × GTape) (x236 : GColumn) (p238 : GValue × GTape) (q273 : Bool × GTape) : Option (Go.Ab.Step ((List GValue) × GTape) ((List GValue) × GTape)) :=
  (if q273.1 = true then ((Fw_Tape_Small k (q273.2)).bind fun p275 => (Fw_Tape_Row.j31 k s234 x236 p238 (p275.2, p275.1))) else (Fw_Tape_Row.j31 k s234 x236 p238 ((q273.2), p238.1.Int)))
def Fw_Tape_Row.b1 (k : Nat) (x236 : GColumn) (i235 : Nat) (s234 : (List GValue) × GTape) : Option (Go.Ab.Step ((List GValue) × GTape) ((List GValue) × GTape)) :=
  ((Fw_Tape_Typed k (s234.2) x236.Typ).bind fun p238 => (if decide (x236.Typ = 1) = true then ((Fw_Tape_Bool k p238.2 9).bind fun p278 => (Fw_Tape_Row.j35 k s234 x236 p238 ((!p278.1), p278.2))) else (Fw_Tape_Row.j35 k s234 x236 p238 (false, p238.2))))
def Fw_Tape_Row (k : Nat) (a0 : GTape) (a1 : GSchema) : Option ((List GValue) × GTape) :=
  ((loopL (Fw_Tape_Row.b1 k) a1.Columns 0 (([] : List GValue), a0)).bind fun out => Out.el out (fun r0 => some r0) fun s280 => (some (s280.1, (s280.2))))
theorem fw_Tape_Row_ok {k : Nat} {a0 : GTape} {a1 : GSchema} {r : (List GValue) × GTape} (h : Fw_Tape_Row k a0 a1 = some r) :
    ACalls Tryz.prog gl 57 [(.ptr 0 0), (.agg (GSchema.pvs a1))] [(0, some (.var (GTape.pvs a0)))] (.osl 50) [(50, some (.arr true 91 3 (r.1.map GValue.cells))), (0, some (.var (GTape.pvs r.2)))] [50] := by
  refine ACalls.enter sys Tryz.func57 fun w F ν => ?_
  unfold Fw_Tape_Row at h
  refine AConf.go sys 0 100 [.l GColumn.cells a1.Columns, .ownR 8953 true 5 111 91 3] ?_
  refine AConf.range (bodyOf Tryz.f57) [1, 0, 1, 1] (fun (s234 : (List GValue) × GTape) => ([(0, some (.ptr 0 0)), (4, some pN), (5, some (.osl 111)), (10, some (pL GColumn.cells a1.Columns)), (11, some (pI (a1.Columns.length : Int)))], [(111, some (.arr true 91 3 (s234.1.map GValue.cells))), (0, some (.var (GTape.pvs s234.2)))])) (bR 10 GColumn.cells) h (fun _ h => h.symm) (fun s280 h => ?_) (fun i235 x236 s234 o233 hx237 h hrt => ?_)
  · obtain rfl := Option.some.inj h
    refine AConf.go sys 0 116 [.ren 8960 111 50] ?_
    exact AConf.fin
  · unfold Fw_Tape_Row.b1 at h
    obtain ⟨p238, hp239, h⟩ := bind_some h
    refine AConf.go sys 6779 112 [.e GColumn.cells hx237, .call (fw_Tape_Typed_ok hp239)] ?_
    refine AConf.join (ι := GTape × Int) (bodyOf Tryz.f57) [1, 1, 9, 1, 0, 1, 1] (fun q250 => Fw_Tape_Row.j31 k s234 x236 p238 q250 = some o233) (fun (q250 : GTape × Int) => ([(0, some (.ptr 0 0)), (4, some pN), (5, some (.osl 111)), (7, some (.ptr 112 0)), (8, some (.ptr 113 0)), (10, some (pL GColumn.cells a1.Columns)), (11, some (pI (a1.Columns.length : Int))), (12, some (pI (i235 : Int)))], [(111, some (.arr true 91 3 (s234.1.map GValue.cells))), (0, some (.var (GTape.pvs q250.1))), (112, some (.var (GColumn.pvs x236))), (113, some (.var [(pI p238.1.Kind), (pI q250.2), (pS p238.1.Text)]))])) ?_ fun q250 h => ?_
    · refine AConf.go sys 8563 116 [] ?_
      refine AConf.join (ι := Bool × GTape) (bodyOf Tryz.f57) [2, 1, 1, 9, 1, 0, 1, 1] (fun q273 => Fw_Tape_Row.j35 k s234 x236 p238 q273 = some o233) (fun (q273 : Bool × GTape) => ([(0, some (.ptr 0 0)), (4, some pN), (5, some (.osl 111)), (7, some (.ptr 112 0)), (8, some (.ptr 113 0)), (10, some (pL GColumn.cells a1.Columns)), (11, some (pI (a1.Columns.length : Int))), (12, some (pI (i235 : Int))), (27, some (pB q273.1))], [(111, some (.arr true 91 3 (s234.1.map GValue.cells))), (0, some (.var (GTape.pvs q273.2))), (112, some (.var (GColumn.pvs x236))), (113, some (.var (GValue.pvs p238.1)))])) ?_ fun q273 h => ?_
      · rcases ite_or h with ⟨hb277, h⟩ | ⟨hb277, h⟩
        · obtain ⟨p278, hp279, h⟩ := bind_some h
          refine AConf.go sys 0 116 [.kk 1 hb277, .call (fw_Tape_Bool_ok hp279), .kk 1 hb277] ?_
          exact AConf.joinN (i := ((!p278.1), p278.2)) h
        · refine AConf.go sys 0 116 [.kk 3 hb277] ?_
          exact AConf.joinN (i := (false, p238.2)) h
      · unfold Fw_Tape_Row.j35 at h
        rcases ite_or h with ⟨hb274, h⟩ | ⟨hb274, h⟩
        · obtain ⟨p275, hp276, h⟩ := bind_some h
          refine AConf.go sys 0 116 [.k hb274, .call (fw_Tape_Small_ok hp276)] ?_
          exact AConf.joinN (i := (p275.2, p275.1)) h
        · refine AConf.go sys 0 116 [.k hb274] ?_
          exact AConf.joinN (i := ((q273.2), p238.1.Int)) h
    · unfold Fw_Tape_Row.j31 at h
      refine AConf.go sys 8562 114 [] ?_
      refine AConf.join (ι := GTape × Int × Int × (List UInt8)) (bodyOf Tryz.f57) [1, 1, 1, 9, 1, 0, 1, 1] (fun q259 => Fw_Tape_Row.j33 s234 q259 = some o233) (fun (q259 : GTape × Int × Int × (List UInt8)) => ([(0, some (.ptr 0 0)), (4, some pN), (5, some (.osl 111)), (8, some (.ptr 113 0)), (10, some (pL GColumn.cells a1.Columns)), (11, some (pI (a1.Columns.length : Int))), (12, some (pI (i235 : Int)))], [(111, some (.arr true 91 3 (s234.1.map GValue.cells))), (0, some (.var (GTape.pvs q259.1))), (113, some (.var [(pI q259.2.1), (pI q259.2.2.1), (pS q259.2.2.2)]))])) ?_ fun q259 h => ?_
      · refine AConf.go sys 1098 116 [] ?_
        refine AConf.join (ι := Bool × GTape) (bodyOf Tryz.f57) [2, 1, 1, 1, 9, 1, 0, 1, 1] (fun q265 => Fw_Tape_Row.j34 s234 p238 q250 q265 = some o233) (fun (q265 : Bool × GTape) => ([(0, some (.ptr 0 0)), (4, some pN), (5, some (.osl 111)), (8, some (.ptr 113 0)), (10, some (pL GColumn.cells a1.Columns)), (11, some (pI (a1.Columns.length : Int))), (12, some (pI (i235 : Int))), (37, some (pB q265.1))], [(111, some (.arr true 91 3 (s234.1.map GValue.cells))), (0, some (.var (GTape.pvs q265.2))), (113, some (.var [(pI p238.1.Kind), (pI q250.2), (pS p238.1.Text)]))])) ?_ fun q265 h => ?_
        · rcases ite_or h with ⟨hb267, h⟩ | ⟨hb267, h⟩
          · refine AConf.go sys 0 116 [.kk 2 (notT hb267)] ?_
            exact AConf.joinN (i := (false, (q250.1))) h
          · obtain ⟨p268, hp269, h⟩ := bind_some h
            refine AConf.go sys 0 116 [.kk 1 (notF hb267), .call (fw_Tape_Bool_ok hp269), .k (notF hb267)] ?_
            exact AConf.joinN (i := (p268.1, p268.2)) h
        · unfold Fw_Tape_Row.j34 at h
          rcases ite_or h with ⟨hb266, h⟩ | ⟨hb266, h⟩
          · refine AConf.go sys 0 116 [.k hb266] ?_
            exact AConf.joinN (i := ((q265.2), 0, 0, [])) h
          · refine AConf.go sys 0 116 [.k hb266] ?_
            exact AConf.joinN (i := ((q265.2), p238.1.Kind, q250.2, p238.1.Text)) h
      · unfold Fw_Tape_Row.j33 at h
        obtain ⟨l260, hv261, h⟩ := bind_some h
        refine AConf.go sys 0 114 [.b true GValue.cells ([(GValue.mk q259.2.1 q259.2.2.1 q259.2.2.2)]), .a true GValue.cells_len hv261, .kp 5 [0, 4, 5, 10, 11, 12] [0, 115], .ren 5 115 111] ?_
        exact AConf.rngC h

-- (*triggerstore/triggerstoreworld.Tape).Value
def Fw_Tape_Value (k : Nat) (a0 : GTape) : Option (GValue × GTape) :=
  ((Fw_Tape_Next k a0 4).bind fun p1 => ((Fw_Tape_Typed k p1.2 p1.1).bind fun p3 => (some (p3.1, p3.2))))
theorem fw_Tape_Value_ok {k : Nat} {a0 : GTape} {r : GValue × GTape} (h : Fw_Tape_Value k a0 = some r) :
    ACalls Tryz.prog gl 58 [(.ptr 0 0)] [(0, some (.var (GTape.pvs a0)))] (.agg (GValue.pvs r.1)) [(0, some (.var (GTape.pvs r.2)))] [] := by
  refine ACalls.enter sys Tryz.func58 fun w F ν => ?_
  unfold Fw_Tape_Value at h
  obtain ⟨p1, hp2, h⟩ := bind_some h
  obtain ⟨p3, hp4, h⟩ := bind_some h
  obtain rfl := Option.some.inj h
  refine AConf.go sys 0 100 [.call (fw_Tape_Next_ok hp2), .call (fw_Tape_Typed_ok hp4)] ?_
  exact AConf.fin

-- (*triggerstore/triggerstoreworld.Tape).ChangeOf
def Fw_Tape_ChangeOf.j17 (s321 : GTape × (List Int) × (List GPair)) (x323 : GRow) (q356 : (List GValue) × GTape) : Option (Go.Ab.Step (GChange × GTape) (GTape × (List Int) × (List GPair))) :=
  ((app 32 ([] : List GValue) x323.Values).bind fun l359 => ((app 56 s321.2.2 ([(GPair.mk x323.ID l359 q356.1)])).bind fun l361 => (some (.cont ((q356.2), s321.2.1, l361)))))
def Fw_Tape_ChangeOf.j16 (k : Nat) (s321 : GTape × (List Int) × (List GPair)) (x323 : GRow) (q346 : (List GValue) × GTape) : Option (Go.Ab.Step (GChange × GTape) (GTape × (List Int) × (List GPair))) :=
  ((Fw_Tape_Bool k (q346.2) 12).bind fun p363 => (if p363.1 = true then ((Fw_Tape_Next k p363.2 (q346.1.length : Int)).bind fun p366 => ((Fw_Tape_Value k p366.2).bind fun p368 => ((idx q346.1 p366.1).bind fun x370 => (Fw_Tape_ChangeOf.j17 s321 x323 ((q346.1.set ((p366.1 : Int).toNat) p368.1), p368.2))))) else (Fw_Tape_ChangeOf.j17 s321 x323 (q346.1, p363.2))))
def Fw_Tape_ChangeOf.j15 (k : Nat) (s321 : GTape × (List Int) × (List GPair)) (x323 : GRow) (q340 : (List GValue) × GTape) : Option (Go.Ab.Step (GChange × GTape) (GTape × (List Int) × (List GPair))) :=
  ((Fw_Tape_Bool k (q340.2) 8).bind fun p372 => (if p372.1 = true then ((app 32 ([] : List GValue) x323.Values).bind fun l375 => (Fw_Tape_ChangeOf.j16 k s321 x323 (l375, p372.2))) else (Fw_Tape_ChangeOf.j16 k s321 x323 (q340.1, p372.2))))
def Fw_Tape_ChangeOf.b1 (k : Nat) (a1 : GTable) (x323 : GRow) (i322 : Nat) (s321 : GTape × (List Int) × (List GPair)) : Option (Go.Ab.Step (GChange × GTape) (GTape × (List Int) × (List GPair))) :=
  ((Fw_Tape_Next k (s321.1) 4).bind fun p325 => (if decide (p325.1 = 0) = true then ((app 8 s321.2.1 ([x323.ID])).bind fun l328 => (some (.cont (p325.2, l328, s321.2.2)))) else (if decide (p325.1 = 1) = true then ((Fw_Tape_Row k p325.2 a1.Schema).bind fun p331 => ((Fw_Tape_Bool k p331.2 2).bind fun p377 => (if p377.1 = true then ((idx x323.Values 0).bind fun x380 => ((idx p331.1 0).bind fun x382 => (Fw_Tape_ChangeOf.j15 k s321 x323 ((p331.1.set ((0 : Int).toNat) x380), p377.2)))) else (Fw_Tape_ChangeOf.j15 k s321 x323 (p331.1, p377.2))))) else (some (.cont (p325.2, s321.2.1, s321.2.2))))))
def Fw_Tape_ChangeOf.j29 (s637 : Int × GTape × (List (List GValue))) (q674 : (List GValue) × GTape) : Option (Go.Ab.Step (GChange × GTape) (Int × GTape × (List (List GValue)))) :=
  ((app 24 s637.2.2 ([q674.1])).bind fun l675 => (some (.cont (w64 (s637.1 - 1), (q674.2), l675))))
def Fw_Tape_ChangeOf.b3 (k : Nat) (a1 : GTable) (s637 : Int × GTape × (List (List GValue))) : Option (Go.Ab.Step (GChange × GTape) (Int × GTape × (List (List GValue)))) :=
  (if decide (0 < s637.1) = true then ((Fw_Tape_Row k (s637.2.1) a1.Schema).bind fun p663 => ((Fw_Tape_Bool k p663.2 12).bind fun p677 => (if p677.1 = true then ((Fw_Tape_Next k p677.2 (p663.1.length : Int)).bind fun p680 => ((Fw_Tape_Value k p680.2).bind fun p682 => ((idx p663.1 p680.1).bind fun x684 => (Fw_Tape_ChangeOf.j29 s637 ((p663.1.set ((p680.1 : Int).toNat) p682.1), p682.2))))) else (Fw_Tape_ChangeOf.j29 s637 (p663.1, p677.2))))) else (some (.brk (s637.1, (s637.2.1), s637.2.2))))
def Fw_Tape_ChangeOf (k : Nat) (a0 : GTape) (a1 : GTable) : Option (GChange × GTape) :=
  ((loopL (Fw_Tape_ChangeOf.b1 k a1) a1.Rows 0 (a0, ([] : List Int), ([] : List GPair))).bind fun out => Out.el out (fun r0 => some r0) fun s384 => ((Fw_Tape_Next k (s384.1) 4).bind fun p536 => ((loopN (Fw_Tape_ChangeOf.b3 k a1) k (p536.1, p536.2, ([] : List (List GValue)))).bind fun out => Out.el out (fun r0 => some r0) fun s686 => (some ((GChange.mk s686.2.2 s384.2.1 s384.2.2), (s686.2.1))))))
theorem fw_Tape_ChangeOf_ok {k : Nat} {a0 : GTape} {a1 : GTable} {r : GChange × GTape} (h : Fw_Tape_ChangeOf k a0 a1 = some r) :
    ACalls Tryz.prog gl 19 [(.ptr 0 0), (.agg (GTable.pvs a1))] [(0, some (.var (GTape.pvs a0)))] (.agg (GChange.pvs r.1)) [(0, some (.var (GTape.pvs r.2)))] [] := by
  refine ACalls.enter sys Tryz.func19 fun w F ν => ?_
  unfold Fw_Tape_ChangeOf at h
  refine AConf.go sys 0 100 [.l GRow.cells a1.Rows, .ownC 8953 true 102 1 119 3 1, .ownC 8953 true 102 2 120 84 3] ?_
  refine AConf.range (bodyOf Tryz.f19) [1, 0, 1, 1] (fun (s321 : GTape × (List Int) × (List GPair)) => ([(0, some (.ptr 0 0)), (3, some (.ptr 100 0)), (4, some (.ptr 101 0)), (5, some (.ptr 102 0)), (12, some (pL GRow.cells a1.Rows)), (13, some (pI (a1.Rows.length : Int)))], [(0, some (.var (GTape.pvs s321.1))), (100, some (.var (GTable.pvs a1))), (101, some (.var [pN, pN, pN])), (119, some (.arr true 3 1 (s321.2.1.map cI))), (120, some (.arr true 84 3 (s321.2.2.map GPair.cells))), (102, some (.var [pN, (.osl 119), (.osl 120)]))])) (bR 12 GRow.cells) h (fun _ h => h.symm) (fun s384 h => ?_) (fun i322 x323 s321 o320 hx324 h hrt => ?_)
  · obtain ⟨p536, hp537, h⟩ := bind_some h
    refine AConf.go sys 0 127 [.call (fw_Tape_Next_ok hp537), .ownC 3876 true 102 0 133 51 1] ?_
    refine AConf.rounds (bodyOf Tryz.f19) [1, 0, 1, 1, 1] (fun (s637 : Int × GTape × (List (List GValue))) => ([(0, some (.ptr 0 0)), (3, some (.ptr 100 0)), (4, some (.ptr 101 0)), (5, some (.ptr 102 0)), (9, some (pI s637.1))], [(0, some (.var (GTape.pvs s637.2.1))), (100, some (.var (GTable.pvs a1))), (101, some (.var [pN, pN, pN])), (133, some (.arr true 51 1 (s637.2.2.map (cL GValue.cells)))), (119, some (.arr true 3 1 (s384.2.1.map cI))), (120, some (.arr true 84 3 (s384.2.2.map GPair.cells))), (102, some (.var [(.osl 133), (.osl 119), (.osl 120)]))])) h (fun _ h => h.symm) (fun s686 h => ?_) (fun s637 o636 h hrt => ?_)
    · obtain rfl := Option.some.inj h
      refine AConf.go sys 0 136 [.frz 3883 133, .frz 3883 119, .frz 3883 120] ?_
      exact AConf.fin
    · unfold Fw_Tape_ChangeOf.b3 at h
      rcases ite_or h with ⟨hb639, h⟩ | ⟨hb639, h⟩
      · obtain ⟨p663, hp664, h⟩ := bind_some h
        refine AConf.go sys 8483 134 [.k hb639, .call (fw_Tape_Row_ok hp664)] ?_
        refine AConf.join (ι := (List GValue) × GTape) (bodyOf Tryz.f19) [1, 3, 0, 1, 8, 1, 0, 1, 1, 1] (fun q674 => Fw_Tape_ChangeOf.j29 s637 q674 = some o636) (fun (q674 : (List GValue) × GTape) => ([(0, some (.ptr 0 0)), (3, some (.ptr 100 0)), (4, some (.ptr 101 0)), (5, some (.ptr 102 0)), (9, some (pI s637.1)), (10, some (.osl 50))], [(50, some (.arr true 91 3 (q674.1.map GValue.cells))), (0, some (.var (GTape.pvs q674.2))), (100, some (.var (GTable.pvs a1))), (101, some (.var [pN, pN, pN])), (133, some (.arr true 51 1 (s637.2.2.map (cL GValue.cells)))), (119, some (.arr true 3 1 (s384.2.1.map cI))), (120, some (.arr true 84 3 (s384.2.2.map GPair.cells))), (102, some (.var [(.osl 133), (.osl 119), (.osl 120)]))])) ?_ fun q674 h => ?_
        · obtain ⟨p677, hp678, h⟩ := bind_some h
          refine AConf.go sys 0 136 [.call (fw_Tape_Bool_ok hp678)] ?_
          rcases ite_or h with ⟨hb679, h⟩ | ⟨hb679, h⟩
          · obtain ⟨p680, hp681, h⟩ := bind_some h
            obtain ⟨p682, hp683, h⟩ := bind_some h
            obtain ⟨x684, hv685, h⟩ := bind_some h
            refine AConf.go sys 0 136 [.k hb679, .l GValue.cells p663.1, .call (fw_Tape_Next_ok hp681), .call (fw_Tape_Value_ok hp683), .x GValue.cells hv685, .o GValue.cells_len hv685 p682.1] ?_
            exact AConf.joinN (i := ((p663.1.set ((p680.1 : Int).toNat) p682.1), p682.2)) h
          · refine AConf.go sys 0 136 [.k hb679] ?_
            exact AConf.joinN (i := (p663.1, p677.2)) h
        · unfold Fw_Tape_ChangeOf.j29 at h
          obtain ⟨l675, hv676, h⟩ := bind_some h
          refine AConf.go sys 0 134 [.rd 10517 50, .b true (cL GValue.cells) ([q674.1]), .a true (f := (cL GValue.cells)) (sz := 1) (fun _ => rfl) hv676, .kp 3 [0, 3, 4, 5, 9] [0, 100, 101, 102, 119, 120, 135], .ren 3 135 133] ?_
          exact AConf.stpC h
      · refine AConf.go sys 0 134 [.k hb639] ?_
        exact AConf.stpB h
  · unfold Fw_Tape_ChangeOf.b1 at h
    obtain ⟨p325, hp326, h⟩ := bind_some h
    refine AConf.go sys 0 121 [.e GRow.cells hx324, .call (fw_Tape_Next_ok hp326)] ?_
    rcases ite_or h with ⟨hb327, h⟩ | ⟨hb327, h⟩
    · obtain ⟨l328, hv329, h⟩ := bind_some h
      refine AConf.go sys 0 122 [.k hb327, .b true cI ([x323.ID]), .a true (f := cI) (sz := 1) (fun _ => rfl) hv329, .kp 8 [0, 3, 4, 5, 12, 13, 14] [0, 100, 101, 102, 120, 123], .ren 8 123 119] ?_
      exact AConf.rngC h
    · refine AConf.go sys 0 122 [.k hb327] ?_
      rcases ite_or h with ⟨hb330, h⟩ | ⟨hb330, h⟩
      · obtain ⟨p331, hp332, h⟩ := bind_some h
        refine AConf.go sys 7593 122 [.k hb330, .call (fw_Tape_Row_ok hp332)] ?_
        refine AConf.join (ι := (List GValue) × GTape) (bodyOf Tryz.f19) [1, 4, 1, 5, 1, 3, 1, 1, 9, 1, 0, 1, 1] (fun q340 => Fw_Tape_ChangeOf.j15 k s321 x323 q340 = some o320) (fun (q340 : (List GValue) × GTape) => ([(0, some (.ptr 0 0)), (3, some (.ptr 100 0)), (4, some (.ptr 101 0)), (5, some (.ptr 102 0)), (7, some (.ptr 121 0)), (8, some (.osl 50)), (12, some (pL GRow.cells a1.Rows)), (13, some (pI (a1.Rows.length : Int))), (14, some (pI (i322 : Int)))], [(50, some (.arr true 91 3 (q340.1.map GValue.cells))), (0, some (.var (GTape.pvs q340.2))), (100, some (.var (GTable.pvs a1))), (101, some (.var [pN, pN, pN])), (119, some (.arr true 3 1 (s321.2.1.map cI))), (120, some (.arr true 84 3 (s321.2.2.map GPair.cells))), (102, some (.var [pN, (.osl 119), (.osl 120)])), (121, some (.var (GRow.pvs x323)))])) ?_ fun q340 h => ?_
        · obtain ⟨p377, hp378, h⟩ := bind_some h
          refine AConf.go sys 0 127 [.call (fw_Tape_Bool_ok hp378)] ?_
          rcases ite_or h with ⟨hb379, h⟩ | ⟨hb379, h⟩
          · obtain ⟨x380, hv381, h⟩ := bind_some h
            obtain ⟨x382, hv383, h⟩ := bind_some h
            refine AConf.go sys 0 127 [.k hb379, .x GValue.cells hv381, .x GValue.cells hv383, .o GValue.cells_len hv383 x380] ?_
            exact AConf.joinN (i := ((p331.1.set ((0 : Int).toNat) x380), p377.2)) h
          · refine AConf.go sys 0 127 [.k hb379] ?_
            exact AConf.joinN (i := (p331.1, p377.2)) h
        · unfold Fw_Tape_ChangeOf.j15 at h
          refine AConf.go sys 4287 122 [] ?_
          refine AConf.join (ι := (List GValue) × GTape) (bodyOf Tryz.f19) [1, 1, 4, 1, 5, 1, 3, 1, 1, 9, 1, 0, 1, 1] (fun q346 => Fw_Tape_ChangeOf.j16 k s321 x323 q346 = some o320) (fun (q346 : (List GValue) × GTape) => ([(0, some (.ptr 0 0)), (3, some (.ptr 100 0)), (4, some (.ptr 101 0)), (5, some (.ptr 102 0)), (7, some (.ptr 121 0)), (8, some (.osl 122)), (12, some (pL GRow.cells a1.Rows)), (13, some (pI (a1.Rows.length : Int))), (14, some (pI (i322 : Int)))], [(122, some (.arr true 91 3 (q346.1.map GValue.cells))), (0, some (.var (GTape.pvs q346.2))), (100, some (.var (GTable.pvs a1))), (101, some (.var [pN, pN, pN])), (119, some (.arr true 3 1 (s321.2.1.map cI))), (120, some (.arr true 84 3 (s321.2.2.map GPair.cells))), (102, some (.var [pN, (.osl 119), (.osl 120)])), (121, some (.var (GRow.pvs x323)))])) ?_ fun q346 h => ?_
          · obtain ⟨p372, hp373, h⟩ := bind_some h
            refine AConf.go sys 0 126 [.call (fw_Tape_Bool_ok hp373)] ?_
            rcases ite_or h with ⟨hb374, h⟩ | ⟨hb374, h⟩
            · obtain ⟨l375, hv376, h⟩ := bind_some h
              refine AConf.go sys 0 126 [.k hb374, .a true GValue.cells_len hv376, .kp 4 [0, 3, 4, 5, 7, 8, 12, 13, 14] [0, 100, 101, 102, 119, 120, 121, 126], .ren 4 126 122] ?_
              exact AConf.joinN (i := (l375, p372.2)) h
            · refine AConf.go sys 0 126 [.k hb374, .kp 1682 [0, 3, 4, 5, 7, 8, 12, 13, 14] [0, 50, 100, 101, 102, 119, 120, 121], .ren 1682 50 122] ?_
              exact AConf.joinN (i := (q340.1, p372.2)) h
          · unfold Fw_Tape_ChangeOf.j16 at h
            refine AConf.go sys 1091 123 [] ?_
            refine AConf.join (ι := (List GValue) × GTape) (bodyOf Tryz.f19) [1, 1, 1, 4, 1, 5, 1, 3, 1, 1, 9, 1, 0, 1, 1] (fun q356 => Fw_Tape_ChangeOf.j17 s321 x323 q356 = some o320) (fun (q356 : (List GValue) × GTape) => ([(0, some (.ptr 0 0)), (3, some (.ptr 100 0)), (4, some (.ptr 101 0)), (5, some (.ptr 102 0)), (7, some (.ptr 121 0)), (8, some (.osl 122)), (12, some (pL GRow.cells a1.Rows)), (13, some (pI (a1.Rows.length : Int))), (14, some (pI (i322 : Int)))], [(122, some (.arr true 91 3 (q356.1.map GValue.cells))), (0, some (.var (GTape.pvs q356.2))), (100, some (.var (GTable.pvs a1))), (101, some (.var [pN, pN, pN])), (119, some (.arr true 3 1 (s321.2.1.map cI))), (120, some (.arr true 84 3 (s321.2.2.map GPair.cells))), (102, some (.var [pN, (.osl 119), (.osl 120)])), (121, some (.var (GRow.pvs x323)))])) ?_ fun q356 h => ?_
            · obtain ⟨p363, hp364, h⟩ := bind_some h
              refine AConf.go sys 0 126 [.call (fw_Tape_Bool_ok hp364)] ?_
              rcases ite_or h with ⟨hb365, h⟩ | ⟨hb365, h⟩
              · obtain ⟨p366, hp367, h⟩ := bind_some h
                obtain ⟨p368, hp369, h⟩ := bind_some h
                obtain ⟨x370, hv371, h⟩ := bind_some h
                refine AConf.go sys 0 126 [.k hb365, .l GValue.cells q346.1, .call (fw_Tape_Next_ok hp367), .call (fw_Tape_Value_ok hp369), .x GValue.cells hv371, .o GValue.cells_len hv371 p368.1] ?_
                exact AConf.joinN (i := ((q346.1.set ((p366.1 : Int).toNat) p368.1), p368.2)) h
              · refine AConf.go sys 0 126 [.k hb365] ?_
                exact AConf.joinN (i := (q346.1, p363.2)) h
            · unfold Fw_Tape_ChangeOf.j17 at h
              obtain ⟨l359, hv360, h⟩ := bind_some h
              obtain ⟨l361, hv362, h⟩ := bind_some h
              refine AConf.go sys 0 123 [.rd 8638 122, .a false GValue.cells_len hv360, .b true GPair.cells ([(GPair.mk x323.ID l359 q356.1)]), .a true GPair.cells_len hv362, .kp 13 [0, 3, 4, 5, 12, 13, 14] [0, 100, 101, 102, 119, 125], .ren 13 125 120] ?_
              exact AConf.rngC h
      · refine AConf.go sys 0 122 [.k hb330] ?_
        exact AConf.rngC h

-- (*triggerstore/triggerstoreworld.Tape).TableOf
def Fw_Tape_TableOf.b1 (x33 : GColumn) (i32 : Nat) (s31 : Int) : Option (Go.Ab.Step (GTable × GTape) Int) :=
  (if x33.Key = true then (some (.cont (i32 : Int))) else (some (.cont s31)))
def Fw_Tape_TableOf.b26 (s36 : Int) (p691 : (List GValue) × GTape) (x746 : GRow) (i745 : Nat) (s744 : Bool) : Option (Go.Ab.Step (GTable × GTape) Bool) :=
  (if s744 = true then (if decide (s36 < 0) = true then (some (.cont true)) else ((idx x746.Values s36).bind fun x750 => ((idx p691.1 s36).bind fun x752 => (some (.cont (!decide (x750 = x752))))))) else (some (.cont false)))
def Fw_Tape_TableOf.j7 (k : Nat) (s613 : Int × GTape × Int × (List GRow)) (p691 : (List GValue) × GTape) (q758 : List GRow) : Option (Go.Ab.Step (GTable × GTape) (Int × GTape × Int × (List GRow))) :=
  ((Fw_Tape_Next k p691.2 2).bind fun p759 => ((Fw_Tape_Next k p759.2 2).bind fun p761 => (some (.cont (w64 (s613.1 - 1), p761.2, w64 (s613.2.2.1 + (w64 (1 + (w64 (p759.1 * p761.1))))), q758)))))
def Fw_Tape_TableOf.b27 (k : Nat) (a1 : GSchema) (s36 : Int) (s613 : Int × GTape × Int × (List GRow)) : Option (Go.Ab.Step (GTable × GTape) (Int × GTape × Int × (List GRow))) :=
  (if decide (0 < s613.1) = true then ((Fw_Tape_Row k (s613.2.1) a1).bind fun p691 => ((loopL (Fw_Tape_TableOf.b26 s36 p691) s613.2.2.2 0 true).bind fun out => Out.el out (fun r0 => some (.ret r0)) fun s754 => (if s754 = true then ((app 32 s613.2.2.2 ([(GRow.mk s613.2.2.1 p691.1)])).bind fun l764 => (Fw_Tape_TableOf.j7 k s613 p691 l764)) else (Fw_Tape_TableOf.j7 k s613 p691 s613.2.2.2)))) else (some (.brk (s613.1, (s613.2.1), s613.2.2.1, s613.2.2.2))))
def Fw_Tape_TableOf (k : Nat) (a0 : GTape) (a1 : GSchema) (a2 : Int) : Option (GTable × GTape) :=
  ((Fw_Tape_Next k a0 3).bind fun p1 => ((loopL (Fw_Tape_TableOf.b1) a1.Columns 0 (-1)).bind fun out => Out.el out (fun r0 => some r0) fun s36 => ((Fw_Tape_Next k p1.2 (w64 (a2 + 1))).bind fun p402 => ((loopN (Fw_Tape_TableOf.b27 k a1 s36) k (p402.1, p402.2, w64 (1 + p1.1), ([] : List GRow))).bind fun out => Out.el out (fun r0 => some r0) fun s766 => (some ((GTable.mk a1 s766.2.2.1 s766.2.2.2), (s766.2.1)))))))
theorem fw_Tape_TableOf_ok {k : Nat} {a0 : GTape} {a1 : GSchema} {a2 : Int} {r : GTable × GTape} (h : Fw_Tape_TableOf k a0 a1 a2 = some r) :
    ACalls Tryz.prog gl 50 [(.ptr 0 0), (.agg (GSchema.pvs a1)), (pI a2)] [(0, some (.var (GTape.pvs a0)))] (.agg (GTable.pvs r.1)) [(0, some (.var (GTape.pvs r.2)))] [] := by
  refine ACalls.enter sys Tryz.func50 fun w F ν => ?_
  unfold Fw_Tape_TableOf at h
  obtain ⟨p1, hp2, h⟩ := bind_some h
  refine AConf.go sys 0 100 [.call (fw_Tape_Next_ok hp2), .l GColumn.cells a1.Columns] ?_
  refine AConf.range (bodyOf Tryz.f50) [1, 0, 1, 1, 1] (fun (s31 : Int) => ([(0, some (.ptr 0 0)), (2, some (pI a2)), (4, some (.ptr 100 0)), (6, some (.ptr 101 0)), (7, some (.ptr 102 0)), (8, some (pI s31)), (22, some (pL GColumn.cells a1.Columns)), (23, some (pI (a1.Columns.length : Int)))], [(0, some (.var (GTape.pvs p1.2))), (100, some (.var (GSchema.pvs a1))), (101, some (.var [(pS []), pN, (pI 0), pN])), (102, some (.var [(pS a1.Name), (pL GColumn.cells a1.Columns), (pI (w64 (1 + p1.1))), pN]))])) (bR 22 GColumn.cells) h (fun _ h => h.symm) (fun s36 h => ?_) (fun i32 x33 s31 o30 hx34 h hrt => ?_)
  · obtain ⟨p402, hp403, h⟩ := bind_some h
    refine AConf.go sys 0 106 [.call (fw_Tape_Next_ok hp403), .ownC 8229 false 102 3 117 93 2] ?_
    refine AConf.rounds (bodyOf Tryz.f50) [1, 0, 1, 1, 1, 1] (fun (s613 : Int × GTape × Int × (List GRow)) => ([(0, some (.ptr 0 0)), (4, some (.ptr 100 0)), (6, some (.ptr 101 0)), (7, some (.ptr 102 0)), (8, some (pI s36)), (11, some (pI s613.1))], [(0, some (.var (GTape.pvs s613.2.1))), (100, some (.var (GSchema.pvs a1))), (101, some (.var [(pS []), pN, (pI 0), pN])), (117, some (.arr false 93 2 (s613.2.2.2.map GRow.cells))), (102, some (.var [(pS a1.Name), (pL GColumn.cells a1.Columns), (pI s613.2.2.1), (.osl 117)]))])) h (fun _ h => h.symm) (fun s766 h => ?_) (fun s613 o612 h hrt => ?_)
    · obtain rfl := Option.some.inj h
      refine AConf.go sys 0 125 [.frz 8236 117] ?_
      exact AConf.fin
    · unfold Fw_Tape_TableOf.b27 at h
      rcases ite_or h with ⟨hb615, h⟩ | ⟨hb615, h⟩
      · obtain ⟨p691, hp692, h⟩ := bind_some h
        refine AConf.go sys 0 118 [.k hb615, .call (fw_Tape_Row_ok hp692), .l GRow.cells s613.2.2.2] ?_
        refine AConf.range (bodyOf Tryz.f50) [1, 0, 1, 1, 3, 0, 1, 8, 1, 0, 1, 1, 1, 1] (fun (s744 : Bool) => ([(0, some (.ptr 0 0)), (4, some (.ptr 100 0)), (6, some (.ptr 101 0)), (7, some (.ptr 102 0)), (8, some (pI s36)), (11, some (pI s613.1)), (12, some (.osl 50)), (13, some (pB s744)), (45, some (.osl 117)), (46, some (pI (s613.2.2.2.length : Int)))], [(50, some (.arr true 91 3 (p691.1.map GValue.cells))), (117, some (.arr false 93 2 (s613.2.2.2.map GRow.cells))), (0, some (.var (GTape.pvs p691.2))), (100, some (.var (GSchema.pvs a1))), (101, some (.var [(pS []), pN, (pI 0), pN])), (102, some (.var [(pS a1.Name), (pL GColumn.cells a1.Columns), (pI s613.2.2.1), (.osl 117)]))])) (bO false 93 2 117 GRow.cells) h hrt (fun s754 h => ?_) (fun i745 x746 s744 o743 hx747 h hrt => ?_)
        · refine AConf.go sys 2881 121 [] ?_
          refine AConf.join (ι := List GRow) (bodyOf Tryz.f50) [1, 1, 1, 3, 0, 1, 8, 1, 0, 1, 1, 1, 1] (fun q758 => Fw_Tape_TableOf.j7 k s613 p691 q758 = some o612) (fun (q758 : List GRow) => ([(0, some (.ptr 0 0)), (4, some (.ptr 100 0)), (6, some (.ptr 101 0)), (7, some (.ptr 102 0)), (8, some (pI s36)), (11, some (pI s613.1))], [(0, some (.var (GTape.pvs p691.2))), (100, some (.var (GSchema.pvs a1))), (101, some (.var [(pS []), pN, (pI 0), pN])), (122, some (.arr false 93 2 (q758.map GRow.cells))), (102, some (.var [(pS a1.Name), (pL GColumn.cells a1.Columns), (pI s613.2.2.1), (.osl 122)]))])) ?_ fun q758 h => ?_
          · rcases ite_or h with ⟨hb763, h⟩ | ⟨hb763, h⟩
            · obtain ⟨l764, hv765, h⟩ := bind_some h
              refine AConf.go sys 0 123 [.k hb763, .rd 8100 50, .b false GRow.cells ([(GRow.mk s613.2.2.1 p691.1)]), .a false GRow.cells_len hv765, .kp 10 [0, 4, 6, 7, 8, 11] [0, 100, 101, 102, 124], .ren 10 124 122] ?_
              exact AConf.joinN (i := l764) h
            · refine AConf.go sys 0 123 [.k hb763, .kp 8101 [0, 4, 6, 7, 8, 11] [0, 100, 101, 102, 117], .ren 8101 117 122] ?_
              exact AConf.joinN (i := s613.2.2.2) h
          · unfold Fw_Tape_TableOf.j7 at h
            obtain ⟨p759, hp760, h⟩ := bind_some h
            obtain ⟨p761, hp762, h⟩ := bind_some h
            refine AConf.go sys 0 123 [.call (fw_Tape_Next_ok hp760), .call (fw_Tape_Next_ok hp762), .kp 3 [0, 4, 6, 7, 8, 11] [0, 100, 101, 102, 122], .ren 3 122 117] ?_
            exact AConf.stpC h
        · unfold Fw_Tape_TableOf.b26 at h
          refine AConf.go sys 0 120 [.e GRow.cells hx747, .e GRow.cells hx747] ?_
          rcases ite_or h with ⟨hb748, h⟩ | ⟨hb748, h⟩
          · rcases ite_or h with ⟨hb749, h⟩ | ⟨hb749, h⟩
            · refine AConf.go sys 0 121 [.kk 2 hb748, .kk 9 hb749, .k hb748, .k hb749, .k hb748] ?_
              exact AConf.rngC h
            · obtain ⟨x750, hv751, h⟩ := bind_some h
              obtain ⟨x752, hv753, h⟩ := bind_some h
              refine AConf.go sys 0 121 [.kk 2 hb748, .kk 3 hb749, .x GValue.cells hv751, .kk 3 hb749, .x GValue.cells hv753, .k hb749, .x GValue.cells hv753, .k hb749, .eq eg91 (eq91 x750 x752), .k hb748, .k hb749, .k hb748] ?_
              exact AConf.rngC h
          · refine AConf.go sys 0 121 [.kk 4 hb748] ?_
            exact AConf.rngC h
      · refine AConf.go sys 0 118 [.k hb615] ?_
        exact AConf.stpB h
  · unfold Fw_Tape_TableOf.b1 at h
    refine AConf.go sys 0 105 [.e GColumn.cells hx34] ?_
    rcases ite_or h with ⟨hb35, h⟩ | ⟨hb35, h⟩
    · refine AConf.go sys 0 106 [.k hb35] ?_
      exact AConf.rngC h
    · refine AConf.go sys 0 106 [.k hb35] ?_
      exact AConf.rngC h

-- (*triggerstore/triggerstoreworld.Tape).Store
def Fw_Tape_Store.b1 (k : Nat) (a1 : Int) (x50 : GSchema) (i49 : Nat) (s48 : (List GTable) × GTape) : Option (Go.Ab.Step ((List GTable) × GTape) ((List GTable) × GTape)) :=
  ((Fw_Tape_TableOf k (s48.2) x50 a1).bind fun p52 => ((app 72 s48.1 ([p52.1])).bind fun l54 => (some (.cont (l54, p52.2)))))
def Fw_Tape_Store (k : Nat) (a0 : GTape) (a1 : Int) : Option ((List GTable) × GTape) :=
  ((Fw_Schemas k ).bind fun p29 => ((loopL (Fw_Tape_Store.b1 k a1) p29 0 (([] : List GTable), a0)).bind fun out => Out.el out (fun r0 => some r0) fun s56 => (some (s56.1, (s56.2)))))
theorem fw_Tape_Store_ok {k : Nat} {a0 : GTape} {a1 : Int} {r : (List GTable) × GTape} (h : Fw_Tape_Store k a0 a1 = some r) :
    ACalls Tryz.prog gl 17 [(.ptr 0 0), (pI a1)] [(0, some (.var (GTape.pvs a0)))] (pL GTable.cells r.1) [(0, some (.var (GTape.pvs r.2)))] [] := by
  refine ACalls.enter sys Tryz.func17 fun w F ν => ?_
  unfold Fw_Tape_Store at h
  obtain ⟨p29, hp30, h⟩ := bind_some h
  refine AConf.go sys 0 100 [.call (fw_Schemas_ok hp30), .l GSchema.cells p29, .ownR 8953 false 5 108 68 4] ?_
  refine AConf.range (bodyOf Tryz.f17) [1, 0, 1, 1] (fun (s48 : (List GTable) × GTape) => ([(0, some (.ptr 0 0)), (1, some (pI a1)), (4, some pN), (5, some (.osl 108)), (8, some (.osl 50)), (9, some (pI (p29.length : Int)))], [(108, some (.arr false 68 4 (s48.1.map GTable.cells))), (50, some (.arr false 49 2 (p29.map GSchema.cells))), (0, some (.var (GTape.pvs s48.2)))])) (bO false 49 2 50 GSchema.cells) h (fun _ h => h.symm) (fun s56 h => ?_) (fun i49 x50 s48 o47 hx51 h hrt => ?_)
  · obtain rfl := Option.some.inj h
    refine AConf.go sys 0 112 [.frz 8960 108] ?_
    exact AConf.fin
  · unfold Fw_Tape_Store.b1 at h
    obtain ⟨p52, hp53, h⟩ := bind_some h
    obtain ⟨l54, hv55, h⟩ := bind_some h
    refine AConf.go sys 0 109 [.e GSchema.cells hx51, .e GSchema.cells hx51, .call (fw_Tape_TableOf_ok hp53), .b false GTable.cells ([p52.1]), .a false GTable.cells_len hv55, .kp 8 [0, 1, 4, 5, 8, 9, 10] [0, 50, 111], .ren 8 111 108] ?_
    exact AConf.rngC h

-- triggerstore/triggerstorelaw22.differences
def Flaw22_differences.b1 (k : Nat) (x73 : GTable) (i72 : Nat) (s71 : (List GTable) × GTape) : Option (Go.Ab.Step ((List GTable) × (List GDelta) × GTape) ((List GTable) × GTape)) :=
  ((idx s71.1 (i72 : Int)).bind fun x75 => ((idx s71.1 (i72 : Int)).bind fun x77 => ((Fw_Tape_ChangeOf k (s71.2) x77).bind fun p79 => ((Fr7_Apply k x75 p79.1).bind fun p81 => (if decide (p81.2 = 0) = true then ((idx s71.1 (i72 : Int)).bind fun x84 => (some (.cont ((s71.1.set (((i72 : Int) : Int).toNat) p81.1), p79.2)))) else (some (.cont (s71.1, p79.2))))))))
def Flaw22_differences (k : Nat) (a0 : GTape) : Option ((List GTable) × (List GDelta) × GTape) :=
  ((Fw_Tape_Store k a0 5).bind fun p1 => ((app 72 ([] : List GTable) p1.1).bind fun l3 => ((loopL (Flaw22_differences.b1 k) l3 0 (l3, p1.2)).bind fun out => Out.el out (fun r0 => some r0) fun s86 => ((Fr9_Deltas k p1.1 s86.1).bind fun p87 => (some (s86.1, p87.1, (s86.2)))))))
theorem flaw22_differences_ok {k : Nat} {a0 : GTape} {r : (List GTable) × (List GDelta) × GTape} (h : Flaw22_differences k a0 = some r) :
    ACalls Tryz.prog gl 6 [(.ptr 0 0)] [(0, some (.var (GTape.pvs a0)))] (.tup [(pL GTable.cells r.1), (pL GDelta.cells r.2.1)]) [(0, some (.var (GTape.pvs r.2.2)))] [] := by
  refine ACalls.enter sys Tryz.func6 fun w F ν => ?_
  unfold Flaw22_differences at h
  obtain ⟨p1, hp2, h⟩ := bind_some h
  obtain ⟨l3, hv4, h⟩ := bind_some h
  refine AConf.go sys 0 100 [.call (fw_Tape_Store_ok hp2), .b true GTable.cells ([] : List GTable), .a true GTable.cells_len hv4, .l GTable.cells l3] ?_
  refine AConf.range (bodyOf Tryz.f6) [1, 0, 1, 1, 1] (fun (s71 : (List GTable) × GTape) => ([(0, some (.ptr 0 0)), (2, some pN), (3, some pN), (4, some (pL GTable.cells p1.1)), (5, some (.osl 101)), (17, some (pI (l3.length : Int)))], [(101, some (.arr true 68 4 (s71.1.map GTable.cells))), (0, some (.var (GTape.pvs s71.2)))])) (bO true 68 4 101 GTable.cells) h (fun _ h => h.symm) (fun s86 h => ?_) (fun i72 x73 s71 o70 hx74 h hrt => ?_)
  · obtain ⟨p87, hp88, h⟩ := bind_some h
    obtain rfl := Option.some.inj h
    refine AConf.go sys 0 105 [.rd 3882 101, .call (fr9_Deltas_ok hp88), .frz 8236 101] ?_
    exact AConf.fin
  · unfold Flaw22_differences.b1 at h
    obtain ⟨x75, hv76, h⟩ := bind_some h
    obtain ⟨x77, hv78, h⟩ := bind_some h
    obtain ⟨p79, hp80, h⟩ := bind_some h
    obtain ⟨p81, hp82, h⟩ := bind_some h
    refine AConf.go sys 0 104 [.x GTable.cells hv76, .x GTable.cells hv76, .x GTable.cells hv78, .x GTable.cells hv78, .call (fw_Tape_ChangeOf_ok hp80), .call (fr7_Apply_ok hp82)] ?_
    rcases ite_or h with ⟨hb83, h⟩ | ⟨hb83, h⟩
    · obtain ⟨x84, hv85, h⟩ := bind_some h
      refine AConf.go sys 0 105 [.k hb83, .x GTable.cells hv85, .o GTable.cells_len hv85 p81.1] ?_
      exact AConf.rngC h
    · refine AConf.go sys 0 105 [.k hb83] ?_
      exact AConf.rngC h

-- triggerstore/triggerstorelaw22.EventCounts
def Flaw22_EventCounts.j44 (k : Nat) (x566 : GTrigger) (s641 : Int) (x643 : GDelta) (q646 : Bool) : Option (Go.Ab.Step Bool Int) :=
  (if q646 = true then ((Fw_Schema k x566.Table).bind fun p648 => ((Fr17_Matching k x566 p648 x643).bind fun p650 => ((Fr8_Rows k p650 x566.Event).bind fun p652 => (some (.cont p652))))) else (some (.cont s641)))
def Flaw22_EventCounts.b14 (k : Nat) (x566 : GTrigger) (x643 : GDelta) (i642 : Nat) (s641 : Int) : Option (Go.Ab.Step Bool Int) :=
  (if decide (x643.Table = x566.Table) = true then (Flaw22_EventCounts.j44 k x566 s641 x643 (!x566.Before)) else (Flaw22_EventCounts.j44 k x566 s641 x643 false))
def Flaw22_EventCounts.j51 (s731 : Int) (q740 : Bool) : Option (Go.Ab.Step Bool Int) :=
  (if q740 = true then (some (.ret false)) else (some (.cont (w64 (s731 + 1)))))
def Flaw22_EventCounts.b16 (x566 : GTrigger) (x733 : GItem) (i732 : Nat) (s731 : Int) : Option (Go.Ab.Step Bool Int) :=
  (if decide (x733.Trigger = x566.Name) = true then (if x566.EachRow = true then (if ((decide (0 < (x733.Old.length : Int))) == (!decide (x566.Event = 1))) = true then (if ((decide (0 < (x733.New.length : Int))) == (!decide (x566.Event = 3))) = true then (Flaw22_EventCounts.j51 s731 false) else (Flaw22_EventCounts.j51 s731 true)) else (Flaw22_EventCounts.j51 s731 true)) else (Flaw22_EventCounts.j51 s731 (decide (0 < (w64 ((w64 ((x733.Old.length : Int) + (x733.New.length : Int))) + x733.Row)))))) else (some (.cont s731)))
def Flaw22_EventCounts.j45 (p7 : List GItem) (x566 : GTrigger) (q657 : Int) : Option (Go.Ab.Step Bool Unit) :=
  ((loopL (Flaw22_EventCounts.b16 x566) p7 0 0).bind fun out => Out.el out (fun r0 => some (.ret r0)) fun s745 => (if decide (s745 = q657) = true then (some (.cont ())) else (some (.ret false))))
def Flaw22_EventCounts.b17 (k : Nat) (p5 : (List GTable) × (List GDelta) × GTape) (p7 : List GItem) (x566 : GTrigger) (i565 : Nat) (s564 : Unit) : Option (Go.Ab.Step Bool Unit) :=
  ((loopL (Flaw22_EventCounts.b14 k x566) p5.2.1 0 0).bind fun out => Out.el out (fun r0 => some (.ret r0)) fun s655 => (if x566.EachRow = true then (Flaw22_EventCounts.j45 p7 x566 s655) else (Flaw22_EventCounts.j45 p7 x566 (if 1 < s655 then 1 else s655))))
def Flaw22_EventCounts (k : Nat) (a0 : List Int) : Option Bool :=
  ((Fw_New k a0).bind fun p1 => ((Fw_Tape_Triggers k p1 6).bind fun p3 => ((Flaw22_differences k p3.2.2).bind fun p5 => ((Fevent_Items k p3.1 p5.1 p5.2.1).bind fun p7 => ((loopL (Flaw22_EventCounts.b17 k p5 p7) p3.1 0 ()).bind fun out => Out.el out (fun r0 => some r0) fun _ => ((Flaw22_known k ).bind fun p749 => (some p749)))))))
theorem flaw22_EventCounts_ok {k : Nat} {a0 : List Int} {r : Bool} (h : Flaw22_EventCounts k a0 = some r) :
    ACalls Tryz.prog gl 3 [(pL cI a0)] [] (pB r) [] [] := by
  refine ACalls.enter sys Tryz.func3 fun w F ν => ?_
  unfold Flaw22_EventCounts at h
  obtain ⟨p1, hp2, h⟩ := bind_some h
  obtain ⟨p3, hp4, h⟩ := bind_some h
  obtain ⟨p5, hp6, h⟩ := bind_some h
  obtain ⟨p7, hp8, h⟩ := bind_some h
  refine AConf.go sys 0 100 [.call (fw_New_ok hp2), .call (fw_Tape_Triggers_ok hp4), .call (flaw22_differences_ok hp6), .call (fevent_Items_ok hp8), .l GTrigger.cells p3.1] ?_
  refine AConf.range (bodyOf Tryz.f3) [1, 0, 1, 1, 1, 1, 1] (fun (_s : Unit) => ([(2, some (pB false)), (7, some (pL GDelta.cells p5.2.1)), (8, some (pL GItem.cells p7)), (33, some (pL GTrigger.cells p3.1)), (34, some (pI (p3.1.length : Int)))], [])) (bR 22 GTrigger.cells) h (fun _ h => h.symm) (fun _ h => ?_) (fun i565 x566 _ o563 hx567 h hrt => ?_)
  · obtain ⟨p749, hp750, h⟩ := bind_some h
    obtain rfl := Option.some.inj h
    refine AConf.go sys 0 114 [.call (flaw22_known_ok hp750)] ?_
    exact AConf.fin
  · unfold Flaw22_EventCounts.b17 at h
    refine AConf.go sys 0 107 [.e GTrigger.cells hx567, .l GDelta.cells p5.2.1] ?_
    refine AConf.range (bodyOf Tryz.f3) [1, 0, 1, 1, 9, 1, 0, 1, 1, 1, 1, 1] (fun (s641 : Int) => ([(2, some (pB false)), (7, some (pL GDelta.cells p5.2.1)), (8, some (pL GItem.cells p7)), (10, some (.ptr 107 0)), (11, some (pI s641)), (33, some (pL GTrigger.cells p3.1)), (34, some (pI (p3.1.length : Int))), (35, some (pI (i565 : Int))), (39, some (pL GDelta.cells p5.2.1)), (40, some (pI (p5.2.1.length : Int)))], [(107, some (.var (GTrigger.pvs x566)))])) (bR 7 GDelta.cells) h hrt (fun s655 h => ?_) (fun i642 x643 s641 o640 hx644 h hrt => ?_)
    · refine AConf.go sys 4483 111 [] ?_
      refine AConf.join (ι := Int) (bodyOf Tryz.f3) [1, 1, 1, 9, 1, 0, 1, 1, 1, 1, 1] (fun q657 => Flaw22_EventCounts.j45 p7 x566 q657 = some o563) (fun (q657 : Int) => ([(2, some (pB false)), (7, some (pL GDelta.cells p5.2.1)), (8, some (pL GItem.cells p7)), (10, some (.ptr 107 0)), (11, some (pI q657)), (33, some (pL GTrigger.cells p3.1)), (34, some (pI (p3.1.length : Int))), (35, some (pI (i565 : Int)))], [(107, some (.var (GTrigger.pvs x566)))])) ?_ fun q657 h => ?_
      · rcases ite_or h with ⟨hb747, h⟩ | ⟨hb747, h⟩
        · refine AConf.go sys 0 114 [.k (notT hb747)] ?_
          exact AConf.joinN (i := s655) h
        · refine AConf.go sys 0 114 [.k (notF hb747)] ?_
          exact AConf.joinN (i := (if 1 < s655 then 1 else s655)) h
      · unfold Flaw22_EventCounts.j45 at h
        refine AConf.go sys 0 111 [.l GItem.cells p7] ?_
        refine AConf.range (bodyOf Tryz.f3) [1, 0, 1, 1, 1, 1, 1, 9, 1, 0, 1, 1, 1, 1, 1] (fun (s731 : Int) => ([(2, some (pB false)), (7, some (pL GDelta.cells p5.2.1)), (8, some (pL GItem.cells p7)), (10, some (.ptr 107 0)), (11, some (pI q657)), (14, some (pI s731)), (33, some (pL GTrigger.cells p3.1)), (34, some (pI (p3.1.length : Int))), (35, some (pI (i565 : Int))), (70, some (pL GItem.cells p7)), (71, some (pI (p7.length : Int)))], [(107, some (.var (GTrigger.pvs x566)))])) (bR 8 GItem.cells) h hrt (fun s745 h => ?_) (fun i732 x733 s731 o730 hx734 h hrt => ?_)
        · rcases ite_or h with ⟨hb746, h⟩ | ⟨hb746, h⟩
          · refine AConf.go sys 0 114 [.k (notT hb746)] ?_
            exact AConf.rngC h
          · obtain rfl := Option.some.inj h
            obtain rfl := hrt _ rfl
            refine AConf.go sys 0 114 [.k (notF hb746)] ?_
            refine AConf.rngR ?_
            exact AConf.fin
        · unfold Flaw22_EventCounts.b16 at h
          refine AConf.go sys 0 113 [.e GItem.cells hx734] ?_
          rcases ite_or h with ⟨hb736, h⟩ | ⟨hb736, h⟩
          · refine AConf.go sys 9977 114 [.k (notT hb736)] ?_
            refine AConf.join (ι := Bool) (bodyOf Tryz.f3) [1, 1, 1, 9, 1, 0, 1, 1, 1, 1, 1, 9, 1, 0, 1, 1, 1, 1, 1] (fun q740 => Flaw22_EventCounts.j51 s731 q740 = some o730) (fun (q740 : Bool) => ([(2, some (pB false)), (7, some (pL GDelta.cells p5.2.1)), (8, some (pL GItem.cells p7)), (10, some (.ptr 107 0)), (11, some (pI q657)), (14, some (pI (w64 (s731 + 1)))), (33, some (pL GTrigger.cells p3.1)), (34, some (pI (p3.1.length : Int))), (35, some (pI (i565 : Int))), (70, some (pL GItem.cells p7)), (71, some (pI (p7.length : Int))), (72, some (pI (i732 : Int))), (126, some (pB q740))], [(107, some (.var (GTrigger.pvs x566)))])) ?_ fun q740 h => ?_
            · rcases ite_or h with ⟨hb742, h⟩ | ⟨hb742, h⟩
              · refine AConf.go sys 0 114 [.kk 2 hb742, .l GValue.cells x733.Old, .kk 5 hb742] ?_
                rcases ite_or h with ⟨hb743, h⟩ | ⟨hb743, h⟩
                · refine AConf.go sys 0 114 [.kk 2 (notT hb743), .kk 2 hb742, .l GValue.cells x733.New, .kk 4 hb742, .k (notT hb743), .k hb742, .k (notT hb743)] ?_
                  rcases ite_or h with ⟨hb744, h⟩ | ⟨hb744, h⟩
                  · refine AConf.go sys 0 114 [.kk 3 (notT hb744), .kk 10 (notT hb742), .k (notT hb744), .k (notT hb742), .k (notT hb744)] ?_
                    exact AConf.joinN (i := false) h
                  · refine AConf.go sys 0 114 [.kk 5 (notF hb744)] ?_
                    exact AConf.joinN (i := true) h
                · refine AConf.go sys 0 114 [.kk 4 (notF hb743), .kk 5 (rfl : true = _)] ?_
                  exact AConf.joinN (i := true) h
              · refine AConf.go sys 0 114 [.kk 8 hb742, .kk 2 (rfl : false = _), .kk 7 hb742, .N, .k hb742, .kk 4 (rfl : false = _), .kk 2 (notF hb742), .l GValue.cells x733.Old, .kk 2 (notF hb742), .l GValue.cells x733.New, .kk 4 (notF hb742), .N, .k (notF hb742), .N] ?_
                exact AConf.joinN (i := (decide (0 < (w64 ((w64 ((x733.Old.length : Int) + (x733.New.length : Int))) + x733.Row))))) h
            · unfold Flaw22_EventCounts.j51 at h
              rcases ite_or h with ⟨hb741, h⟩ | ⟨hb741, h⟩
              · obtain rfl := Option.some.inj h
                obtain rfl := hrt _ rfl
                refine AConf.go sys 0 114 [.k hb741] ?_
                refine AConf.rngR ?_
                refine AConf.rngR ?_
                exact AConf.fin
              · refine AConf.go sys 0 114 [.k hb741] ?_
                exact AConf.rngC h
          · refine AConf.go sys 0 114 [.k (notF hb736)] ?_
            exact AConf.rngC h
    · unfold Flaw22_EventCounts.b14 at h
      refine AConf.go sys 8732 110 [.e GDelta.cells hx644] ?_
      refine AConf.join (ι := Bool) (bodyOf Tryz.f3) [1, 9, 1, 0, 1, 1, 9, 1, 0, 1, 1, 1, 1, 1] (fun q646 => Flaw22_EventCounts.j44 k x566 s641 x643 q646 = some o640) (fun (q646 : Bool) => ([(2, some (pB false)), (7, some (pL GDelta.cells p5.2.1)), (8, some (pL GItem.cells p7)), (10, some (.ptr 107 0)), (11, some (pI s641)), (13, some (.ptr 110 0)), (33, some (pL GTrigger.cells p3.1)), (34, some (pI (p3.1.length : Int))), (35, some (pI (i565 : Int))), (39, some (pL GDelta.cells p5.2.1)), (40, some (pI (p5.2.1.length : Int))), (41, some (pI (i642 : Int))), (54, some (pB q646))], [(107, some (.var (GTrigger.pvs x566))), (110, some (.var (GDelta.pvs x643)))])) ?_ fun q646 h => ?_
      · rcases ite_or h with ⟨hb654, h⟩ | ⟨hb654, h⟩
        · refine AConf.go sys 0 111 [.kk 3 hb654] ?_
          exact AConf.joinN (i := (!x566.Before)) h
        · refine AConf.go sys 0 111 [.kk 3 hb654] ?_
          exact AConf.joinN (i := false) h
      · unfold Flaw22_EventCounts.j44 at h
        rcases ite_or h with ⟨hb647, h⟩ | ⟨hb647, h⟩
        · obtain ⟨p648, hp649, h⟩ := bind_some h
          obtain ⟨p650, hp651, h⟩ := bind_some h
          obtain ⟨p652, hp653, h⟩ := bind_some h
          refine AConf.go sys 0 111 [.k hb647, .call (fw_Schema_ok hp649), .call (fr17_Matching_ok hp651), .call (fr8_Rows_ok hp653)] ?_
          exact AConf.rngC h
        · refine AConf.go sys 0 111 [.k hb647] ?_
          exact AConf.rngC h
end Go.Proofs.YtiojahpkaogigaaGreatDoor
