/- The types of the program as types of the proof language. Conditions: none. -/
import Derived.Test.YtiojahpkaogigaaGreatDoorAb27
set_option maxRecDepth 100000
set_option linter.unusedVariables false
set_option linter.unusedSimpArgs false
namespace Go.Proofs.YtiojahpkaogigaaGreatDoor
open Go Go.Ab
def fI (x : Int) : FV := .raw (.int .i64 x)
def fK (k : IntKind) (x : Int) : FV := .raw (.int k x)
def fB (x : Bool) : FV := .raw (.bool x)
def fS (x : List UInt8) : FV := .raw (.string (mkS x))
def fL {α : Type} (f : α → List FV) (xs : List α) : FV := .sl (xs.map f)
def pI (x : Int) : PV := .c (fI x)
def pK (k : IntKind) (x : Int) : PV := .c (fK k x)
def pB (x : Bool) : PV := .c (fB x)
def pS (x : List UInt8) : PV := .c (fS x)
def pL {α : Type} (f : α → List FV) (xs : List α) : PV := .c (fL f xs)
def pN : PV := .c (.raw (.slice none 0 0))
def cI (x : Int) : List FV := [fI x]
def cK (k : IntKind) (x : Int) : List FV := [fK k x]
def cB (x : Bool) : List FV := [fB x]
def cS (x : List UInt8) : List FV := [fS x]
def cL {α : Type} (f : α → List FV) (xs : List α) : List FV := [fL f xs]
structure GTape where
  l_ : List Int
  at_ : Int
  deriving DecidableEq
def GTape.xc (x : GTape) : List FV := [(fL cI x.l_), (fI x.at_)]
abbrev GTape.cells (x : GTape) : List FV := GTape.xc x
theorem GTape.cells_len (x : GTape) : (GTape.cells x).length = 2 := rfl
def GTape.pvs (x : GTape) : List PV := (GTape.xc x).map .c
structure GRank where
  Table : List UInt8
  Column : List UInt8
  Low : Int
  High : Int
  deriving DecidableEq
def GRank.xc (x : GRank) : List FV := [(fS x.Table), (fS x.Column), (fI x.Low), (fI x.High)]
abbrev GRank.cells (x : GRank) : List FV := GRank.xc x
theorem GRank.cells_len (x : GRank) : (GRank.cells x).length = 4 := rfl
def GRank.pvs (x : GRank) : List PV := (GRank.xc x).map .c
structure GValue where
  Kind : Int
  Int : Int
  Text : List UInt8
  deriving DecidableEq
def GValue.xc (x : GValue) : List FV := [(fI x.Kind), (fI x.Int), (fS x.Text)]
abbrev GValue.cells (x : GValue) : List FV := GValue.xc x
theorem GValue.cells_len (x : GValue) : (GValue.cells x).length = 3 := rfl
def GValue.pvs (x : GValue) : List PV := (GValue.xc x).map .c
mutual
inductive GQuery where
  | mk (Star : Bool) (Items : List GExpr) (From : List UInt8) (Where : List GExpr)
inductive GExpr where
  | mk (Kind : Int) (Op : Int) (Not : Bool) (Value : GValue) (Table : List UInt8) (Name : List UInt8) (Args : List GExpr) (Sub : List GQuery)
end
def GQuery.Star : GQuery → Bool
  | .mk x _ _ _ => x
def GQuery.Items : GQuery → List GExpr
  | .mk _ x _ _ => x
def GQuery.From : GQuery → List UInt8
  | .mk _ _ x _ => x
def GQuery.Where : GQuery → List GExpr
  | .mk _ _ _ x => x
def GExpr.Kind : GExpr → Int
  | .mk x _ _ _ _ _ _ _ => x
def GExpr.Op : GExpr → Int
  | .mk _ x _ _ _ _ _ _ => x
def GExpr.Not : GExpr → Bool
  | .mk _ _ x _ _ _ _ _ => x
def GExpr.Value : GExpr → GValue
  | .mk _ _ _ x _ _ _ _ => x
def GExpr.Table : GExpr → List UInt8
  | .mk _ _ _ _ x _ _ _ => x
def GExpr.Name : GExpr → List UInt8
  | .mk _ _ _ _ _ x _ _ => x
def GExpr.Args : GExpr → List GExpr
  | .mk _ _ _ _ _ _ x _ => x
def GExpr.Sub : GExpr → List GQuery
  | .mk _ _ _ _ _ _ _ x => x
mutual
def GQuery.cells : GQuery → List FV
  | .mk x0 x1 x2 x3 => [(fB x0), .sl (GExpr.cellsL x1), (fS x2), .sl (GExpr.cellsL x3)]
def GQuery.cellsL : List GQuery → List (List FV)
  | [] => []
  | x :: xs => x.cells :: GQuery.cellsL xs
def GExpr.cells : GExpr → List FV
  | .mk x0 x1 x2 x3 x4 x5 x6 x7 => [(fI x0), (fI x1), (fB x2), (fI x3.Kind), (fI x3.Int), (fS x3.Text), (fS x4), (fS x5), .sl (GExpr.cellsL x6), .sl (GQuery.cellsL x7)]
def GExpr.cellsL : List GExpr → List (List FV)
  | [] => []
  | x :: xs => x.cells :: GExpr.cellsL xs
end
theorem GQuery.cellsL_map : ∀ (xs : List GQuery), GQuery.cellsL xs = xs.map GQuery.cells
  | [] => rfl
  | x :: xs => by rw [GQuery.cellsL, GQuery.cellsL_map xs]; rfl
theorem GExpr.cellsL_map : ∀ (xs : List GExpr), GExpr.cellsL xs = xs.map GExpr.cells
  | [] => rfl
  | x :: xs => by rw [GExpr.cellsL, GExpr.cellsL_map xs]; rfl
def GQuery.xc (x : GQuery) : List FV := [(fB x.Star), (fL GExpr.cells x.Items), (fS x.From), (fL GExpr.cells x.Where)]
theorem GQuery.cells_eq (x : GQuery) : GQuery.cells x = GQuery.xc x := by
  cases x
  simp only [GQuery.cells, GQuery.xc, fL, GQuery.cellsL_map, GExpr.cellsL_map, GQuery.Star, GQuery.Items, GQuery.From, GQuery.Where]
theorem GQuery.cells_len (x : GQuery) : (GQuery.cells x).length = 4 := by rw [GQuery.cells_eq]; rfl
def GQuery.pvs (x : GQuery) : List PV := (GQuery.xc x).map .c
def GExpr.xc (x : GExpr) : List FV := [(fI x.Kind), (fI x.Op), (fB x.Not), (fI x.Value.Kind), (fI x.Value.Int), (fS x.Value.Text), (fS x.Table), (fS x.Name), (fL GExpr.cells x.Args), (fL GQuery.cells x.Sub)]
theorem GExpr.cells_eq (x : GExpr) : GExpr.cells x = GExpr.xc x := by
  cases x
  simp only [GExpr.cells, GExpr.xc, fL, GQuery.cellsL_map, GExpr.cellsL_map, GExpr.Kind, GExpr.Op, GExpr.Not, GExpr.Value, GExpr.Table, GExpr.Name, GExpr.Args, GExpr.Sub]
theorem GExpr.cells_len (x : GExpr) : (GExpr.cells x).length = 10 := by rw [GExpr.cells_eq]; rfl
def GExpr.pvs (x : GExpr) : List PV := (GExpr.xc x).map .c
structure GSet where
  Column : List UInt8
  Expr : GExpr
def GSet.xc (x : GSet) : List FV := [(fS x.Column), (fI x.Expr.Kind), (fI x.Expr.Op), (fB x.Expr.Not), (fI x.Expr.Value.Kind), (fI x.Expr.Value.Int), (fS x.Expr.Value.Text), (fS x.Expr.Table), (fS x.Expr.Name), (fL GExpr.cells x.Expr.Args), (fL GQuery.cells x.Expr.Sub)]
abbrev GSet.cells (x : GSet) : List FV := GSet.xc x
theorem GSet.cells_len (x : GSet) : (GSet.cells x).length = 11 := rfl
def GSet.pvs (x : GSet) : List PV := (GSet.xc x).map .c
structure GAction where
  Kind : Int
  Table : List UInt8
  Rows : List (List GExpr)
  Query : List GQuery
  Sets : List GSet
  Where : List GExpr
  Text : List UInt8
def GAction.xc (x : GAction) : List FV := [(fI x.Kind), (fS x.Table), (fL (cL GExpr.cells) x.Rows), (fL GQuery.cells x.Query), (fL GSet.cells x.Sets), (fL GExpr.cells x.Where), (fS x.Text)]
abbrev GAction.cells (x : GAction) : List FV := GAction.xc x
theorem GAction.cells_len (x : GAction) : (GAction.cells x).length = 7 := rfl
def GAction.pvs (x : GAction) : List PV := (GAction.xc x).map .c
structure GTrigger where
  Name : List UInt8
  Table : List UInt8
  Before : Bool
  Event : Int
  Of : List (List UInt8)
  EachRow : Bool
  Precedes : List (List UInt8)
  Follows : List (List UInt8)
  Rank : List GRank
  When : List GExpr
  Actions : List GAction
def GTrigger.xc (x : GTrigger) : List FV := [(fS x.Name), (fS x.Table), (fB x.Before), (fI x.Event), (fL cS x.Of), (fB x.EachRow), (fL cS x.Precedes), (fL cS x.Follows), (fL GRank.cells x.Rank), (fL GExpr.cells x.When), (fL GAction.cells x.Actions)]
abbrev GTrigger.cells (x : GTrigger) : List FV := GTrigger.xc x
theorem GTrigger.cells_len (x : GTrigger) : (GTrigger.cells x).length = 11 := rfl
def GTrigger.pvs (x : GTrigger) : List PV := (GTrigger.xc x).map .c
structure GLink where
  First : List UInt8
  Second : List UInt8
  deriving DecidableEq
def GLink.xc (x : GLink) : List FV := [(fS x.First), (fS x.Second)]
abbrev GLink.cells (x : GLink) : List FV := GLink.xc x
theorem GLink.cells_len (x : GLink) : (GLink.cells x).length = 2 := rfl
def GLink.pvs (x : GLink) : List PV := (GLink.xc x).map .c
structure GColumn where
  Name : List UInt8
  Typ : Int
  NotNull : Bool
  Key : Bool
  deriving DecidableEq
def GColumn.xc (x : GColumn) : List FV := [(fS x.Name), (fI x.Typ), (fB x.NotNull), (fB x.Key)]
abbrev GColumn.cells (x : GColumn) : List FV := GColumn.xc x
theorem GColumn.cells_len (x : GColumn) : (GColumn.cells x).length = 4 := rfl
def GColumn.pvs (x : GColumn) : List PV := (GColumn.xc x).map .c
structure GSchema where
  Name : List UInt8
  Columns : List GColumn
  deriving DecidableEq
def GSchema.xc (x : GSchema) : List FV := [(fS x.Name), (fL GColumn.cells x.Columns)]
abbrev GSchema.cells (x : GSchema) : List FV := GSchema.xc x
theorem GSchema.cells_len (x : GSchema) : (GSchema.cells x).length = 2 := rfl
def GSchema.pvs (x : GSchema) : List PV := (GSchema.xc x).map .c
structure GRow where
  ID : Int
  Values : List GValue
  deriving DecidableEq
def GRow.xc (x : GRow) : List FV := [(fI x.ID), (fL GValue.cells x.Values)]
abbrev GRow.cells (x : GRow) : List FV := GRow.xc x
theorem GRow.cells_len (x : GRow) : (GRow.cells x).length = 2 := rfl
def GRow.pvs (x : GRow) : List PV := (GRow.xc x).map .c
structure GTable where
  Schema : GSchema
  Next : Int
  Rows : List GRow
  deriving DecidableEq
def GTable.xc (x : GTable) : List FV := [(fS x.Schema.Name), (fL GColumn.cells x.Schema.Columns), (fI x.Next), (fL GRow.cells x.Rows)]
abbrev GTable.cells (x : GTable) : List FV := GTable.xc x
theorem GTable.cells_len (x : GTable) : (GTable.cells x).length = 4 := rfl
def GTable.pvs (x : GTable) : List PV := (GTable.xc x).map .c
structure GPair where
  ID : Int
  Old : List GValue
  New : List GValue
  deriving DecidableEq
def GPair.xc (x : GPair) : List FV := [(fI x.ID), (fL GValue.cells x.Old), (fL GValue.cells x.New)]
abbrev GPair.cells (x : GPair) : List FV := GPair.xc x
theorem GPair.cells_len (x : GPair) : (GPair.cells x).length = 3 := rfl
def GPair.pvs (x : GPair) : List PV := (GPair.xc x).map .c
structure GDelta where
  Table : List UInt8
  Inserted : List GRow
  Deleted : List GRow
  Updated : List GPair
  deriving DecidableEq
def GDelta.xc (x : GDelta) : List FV := [(fS x.Table), (fL GRow.cells x.Inserted), (fL GRow.cells x.Deleted), (fL GPair.cells x.Updated)]
abbrev GDelta.cells (x : GDelta) : List FV := GDelta.xc x
theorem GDelta.cells_len (x : GDelta) : (GDelta.cells x).length = 4 := rfl
def GDelta.pvs (x : GDelta) : List PV := (GDelta.xc x).map .c
structure GItem where
  Trigger : List UInt8
  Row : Int
  Old : List GValue
  New : List GValue
  deriving DecidableEq
def GItem.xc (x : GItem) : List FV := [(fS x.Trigger), (fI x.Row), (fL GValue.cells x.Old), (fL GValue.cells x.New)]
abbrev GItem.cells (x : GItem) : List FV := GItem.xc x
theorem GItem.cells_len (x : GItem) : (GItem.cells x).length = 4 := rfl
def GItem.pvs (x : GItem) : List PV := (GItem.xc x).map .c
structure GChange where
  Inserted : List (List GValue)
  Deleted : List Int
  Updated : List GPair
  deriving DecidableEq
def GChange.xc (x : GChange) : List FV := [(fL (cL GValue.cells) x.Inserted), (fL cI x.Deleted), (fL GPair.cells x.Updated)]
abbrev GChange.cells (x : GChange) : List FV := GChange.xc x
theorem GChange.cells_len (x : GChange) : (GChange.cells x).length = 3 := rfl
def GChange.pvs (x : GChange) : List PV := (GChange.xc x).map .c
structure GFrame where
  Name : List UInt8
  Strict : Bool
  Columns : List GColumn
  Values : List GValue
  deriving DecidableEq
def GFrame.xc (x : GFrame) : List FV := [(fS x.Name), (fB x.Strict), (fL GColumn.cells x.Columns), (fL GValue.cells x.Values)]
abbrev GFrame.cells (x : GFrame) : List FV := GFrame.xc x
theorem GFrame.cells_len (x : GFrame) : (GFrame.cells x).length = 4 := rfl
def GFrame.pvs (x : GFrame) : List PV := (GFrame.xc x).map .c
structure GPlace where
  Frames : List GFrame
  Tables : List GSchema
  deriving DecidableEq
def GPlace.xc (x : GPlace) : List FV := [(fL GFrame.cells x.Frames), (fL GSchema.cells x.Tables)]
abbrev GPlace.cells (x : GPlace) : List FV := GPlace.xc x
theorem GPlace.cells_len (x : GPlace) : (GPlace.cells x).length = 2 := rfl
def GPlace.pvs (x : GPlace) : List PV := (GPlace.xc x).map .c
end Go.Proofs.YtiojahpkaogigaaGreatDoor
