/- Facts on the types of the translation. Conditions: none. -/
import Derived.Test.YtiojahpkaogigaaGreatDoorGty
import Derived.Test.YtiojahpkaogigaaGreatDoorProg
set_option maxRecDepth 100000
set_option linter.unusedVariables false
set_option linter.unusedSimpArgs false
namespace Go.Proofs.YtiojahpkaogigaaGreatDoor
open Go Go.Ab
def G0l : List (List UInt8) := [[97, 97], [98, 98], [99, 99], [100, 100], [101, 101], [102, 102], [103, 103], [104, 104]]
def G1l : List (List UInt8) := [[], [97], [98], [105, 116, 39, 115], [90, 32, 122], [126]]
def gl : Gl := fun g => if g = 0 then some (G0l.map fS) else if g = 1 then some (G1l.map fS) else none
theorem zi102 : ZI Tryz.prog 102 [.slice none 0 0, .slice none 0 0] := ZI.mk' (by kernel_rfl) rfl
theorem zi106 : ZI Tryz.prog 106 [.int .i64 0, .int .i64 0, .bool false, .int .i64 0, .int .i64 0, .string (mkS []), .string (mkS []), .string (mkS []), .slice none 0 0, .slice none 0 0] := ZI.mk' (by kernel_rfl) rfl
theorem zi111 : ZI Tryz.prog 111 [.int .i64 0, .string (mkS []), .slice none 0 0, .slice none 0 0, .slice none 0 0, .slice none 0 0, .string (mkS [])] := ZI.mk' (by kernel_rfl) rfl
theorem zi117 : ZI Tryz.prog 117 [.string (mkS []), .string (mkS []), .int .i64 0, .int .i64 0] := ZI.mk' (by kernel_rfl) rfl
theorem zi127 : ZI Tryz.prog 127 [.string (mkS []), .string (mkS [])] := ZI.mk' (by kernel_rfl) rfl
theorem zi156 : ZI Tryz.prog 156 [.string (mkS []), .int .i64 0, .int .i64 0, .bool false, .int .i64 0, .int .i64 0, .string (mkS []), .string (mkS []), .string (mkS []), .slice none 0 0, .slice none 0 0] := ZI.mk' (by kernel_rfl) rfl
theorem zi166 : ZI Tryz.prog 166 [.string (mkS []), .bool false, .slice none 0 0, .slice none 0 0] := ZI.mk' (by kernel_rfl) rfl
theorem zi186 : ZI Tryz.prog 186 [.bool false, .slice none 0 0, .string (mkS []), .slice none 0 0] := ZI.mk' (by kernel_rfl) rfl
theorem zi3 : ZI Tryz.prog 3 [.int .i64 0] := ZI.mk' (by kernel_rfl) rfl
theorem zi37 : ZI Tryz.prog 37 [.slice none 0 0] := ZI.mk' (by kernel_rfl) rfl
theorem zi40 : ZI Tryz.prog 40 [.string (mkS []), .string (mkS []), .bool false, .int .i64 0, .slice none 0 0, .bool false, .slice none 0 0, .slice none 0 0, .slice none 0 0, .slice none 0 0, .slice none 0 0] := ZI.mk' (by kernel_rfl) rfl
theorem zi44 : ZI Tryz.prog 44 [.string (mkS []), .slice none 0 0, .slice none 0 0, .slice none 0 0] := ZI.mk' (by kernel_rfl) rfl
theorem zi49 : ZI Tryz.prog 49 [.string (mkS []), .slice none 0 0] := ZI.mk' (by kernel_rfl) rfl
theorem zi51 : ZI Tryz.prog 51 [.slice none 0 0] := ZI.mk' (by kernel_rfl) rfl
theorem zi53 : ZI Tryz.prog 53 [.string (mkS []), .int .i64 0, .slice none 0 0, .slice none 0 0] := ZI.mk' (by kernel_rfl) rfl
theorem zi57 : ZI Tryz.prog 57 [.slice none 0 0, .int .i64 0] := ZI.mk' (by kernel_rfl) rfl
theorem zi68 : ZI Tryz.prog 68 [.string (mkS []), .slice none 0 0, .int .i64 0, .slice none 0 0] := ZI.mk' (by kernel_rfl) rfl
theorem zi73 : ZI Tryz.prog 73 [.slice none 0 0, .slice none 0 0, .slice none 0 0] := ZI.mk' (by kernel_rfl) rfl
theorem zi84 : ZI Tryz.prog 84 [.int .i64 0, .slice none 0 0, .slice none 0 0] := ZI.mk' (by kernel_rfl) rfl
theorem zi9 : ZI Tryz.prog 9 [.string (mkS [])] := ZI.mk' (by kernel_rfl) rfl
theorem zi91 : ZI Tryz.prog 91 [.int .i64 0, .int .i64 0, .string (mkS [])] := ZI.mk' (by kernel_rfl) rfl
theorem zi93 : ZI Tryz.prog 93 [.int .i64 0, .slice none 0 0] := ZI.mk' (by kernel_rfl) rfl
theorem zi98 : ZI Tryz.prog 98 [.string (mkS []), .int .i64 0, .bool false, .bool false] := ZI.mk' (by kernel_rfl) rfl
theorem at100 : AT Tryz.prog 100 166 4 72 := AT.mk' Tryz.underlying100 (by kernel_rfl) (by decide)
theorem at108 : AT Tryz.prog 108 37 1 24 := AT.mk' Tryz.underlying108 (by kernel_rfl) (by decide)
theorem at109 : AT Tryz.prog 109 156 11 152 := AT.mk' Tryz.underlying109 (by kernel_rfl) (by decide)
theorem at22 : AT Tryz.prog 22 3 1 8 := AT.mk' Tryz.underlying22 (by kernel_rfl) (by decide)
theorem at25 : AT Tryz.prog 25 40 11 200 := AT.mk' Tryz.underlying25 (by kernel_rfl) (by decide)
theorem at26 : AT Tryz.prog 26 127 2 32 := AT.mk' Tryz.underlying26 (by kernel_rfl) (by decide)
theorem at29 : AT Tryz.prog 29 68 4 72 := AT.mk' Tryz.underlying29 (by kernel_rfl) (by decide)
theorem at30 : AT Tryz.prog 30 44 4 88 := AT.mk' Tryz.underlying30 (by kernel_rfl) (by decide)
theorem at33 : AT Tryz.prog 33 53 4 72 := AT.mk' Tryz.underlying33 (by kernel_rfl) (by decide)
theorem at35 : AT Tryz.prog 35 9 1 16 := AT.mk' Tryz.underlying35 (by kernel_rfl) (by decide)
theorem at37 : AT Tryz.prog 37 106 10 136 := AT.mk' Tryz.underlying37 (by kernel_rfl) (by decide)
theorem at38 : AT Tryz.prog 38 111 7 136 := AT.mk' Tryz.underlying38 (by kernel_rfl) (by decide)
theorem at41 : AT Tryz.prog 41 93 2 32 := AT.mk' Tryz.underlying41 (by kernel_rfl) (by decide)
theorem at42 : AT Tryz.prog 42 84 3 56 := AT.mk' Tryz.underlying42 (by kernel_rfl) (by decide)
theorem at47 : AT Tryz.prog 47 98 4 32 := AT.mk' Tryz.underlying47 (by kernel_rfl) (by decide)
theorem at51 : AT Tryz.prog 51 91 3 32 := AT.mk' Tryz.underlying51 (by kernel_rfl) (by decide)
theorem at71 : AT Tryz.prog 71 51 1 24 := AT.mk' Tryz.underlying71 (by kernel_rfl) (by decide)
theorem at88 : AT Tryz.prog 88 49 2 40 := AT.mk' Tryz.underlying88 (by kernel_rfl) (by decide)
theorem bi102 : BI Tryz.prog 102 [.slice none 0 0, .slice none 0 0] [(0, 1), (1, 1)] := BI.mk' zi102 Tryz.underlying102 (fun _ => by kernel_rfl)
theorem bi106 : BI Tryz.prog 106 [.int .i64 0, .int .i64 0, .bool false, .int .i64 0, .int .i64 0, .string (mkS []), .string (mkS []), .string (mkS []), .slice none 0 0, .slice none 0 0] [(0, 1), (1, 1), (2, 1), (3, 3), (6, 1), (7, 1), (8, 1), (9, 1)] := BI.mk' zi106 Tryz.underlying106 (fun _ => by kernel_rfl)
theorem bi111 : BI Tryz.prog 111 [.int .i64 0, .string (mkS []), .slice none 0 0, .slice none 0 0, .slice none 0 0, .slice none 0 0, .string (mkS [])] [(0, 1), (1, 1), (2, 1), (3, 1), (4, 1), (5, 1), (6, 1)] := BI.mk' zi111 Tryz.underlying111 (fun _ => by kernel_rfl)
theorem bi117 : BI Tryz.prog 117 [.string (mkS []), .string (mkS []), .int .i64 0, .int .i64 0] [(0, 1), (1, 1), (2, 1), (3, 1)] := BI.mk' zi117 Tryz.underlying117 (fun _ => by kernel_rfl)
theorem bi127 : BI Tryz.prog 127 [.string (mkS []), .string (mkS [])] [(0, 1), (1, 1)] := BI.mk' zi127 Tryz.underlying127 (fun _ => by kernel_rfl)
theorem bi156 : BI Tryz.prog 156 [.string (mkS []), .int .i64 0, .int .i64 0, .bool false, .int .i64 0, .int .i64 0, .string (mkS []), .string (mkS []), .string (mkS []), .slice none 0 0, .slice none 0 0] [(0, 1), (1, 10)] := BI.mk' zi156 Tryz.underlying156 (fun _ => by kernel_rfl)
theorem bi166 : BI Tryz.prog 166 [.string (mkS []), .bool false, .slice none 0 0, .slice none 0 0] [(0, 1), (1, 1), (2, 1), (3, 1)] := BI.mk' zi166 Tryz.underlying166 (fun _ => by kernel_rfl)
theorem bi186 : BI Tryz.prog 186 [.bool false, .slice none 0 0, .string (mkS []), .slice none 0 0] [(0, 1), (1, 1), (2, 1), (3, 1)] := BI.mk' zi186 Tryz.underlying186 (fun _ => by kernel_rfl)
theorem bi40 : BI Tryz.prog 40 [.string (mkS []), .string (mkS []), .bool false, .int .i64 0, .slice none 0 0, .bool false, .slice none 0 0, .slice none 0 0, .slice none 0 0, .slice none 0 0, .slice none 0 0] [(0, 1), (1, 1), (2, 1), (3, 1), (4, 1), (5, 1), (6, 1), (7, 1), (8, 1), (9, 1), (10, 1)] := BI.mk' zi40 Tryz.underlying40 (fun _ => by kernel_rfl)
theorem bi44 : BI Tryz.prog 44 [.string (mkS []), .slice none 0 0, .slice none 0 0, .slice none 0 0] [(0, 1), (1, 1), (2, 1), (3, 1)] := BI.mk' zi44 Tryz.underlying44 (fun _ => by kernel_rfl)
theorem bi49 : BI Tryz.prog 49 [.string (mkS []), .slice none 0 0] [(0, 1), (1, 1)] := BI.mk' zi49 Tryz.underlying49 (fun _ => by kernel_rfl)
theorem bi53 : BI Tryz.prog 53 [.string (mkS []), .int .i64 0, .slice none 0 0, .slice none 0 0] [(0, 1), (1, 1), (2, 1), (3, 1)] := BI.mk' zi53 Tryz.underlying53 (fun _ => by kernel_rfl)
theorem bi57 : BI Tryz.prog 57 [.slice none 0 0, .int .i64 0] [(0, 1), (1, 1)] := BI.mk' zi57 Tryz.underlying57 (fun _ => by kernel_rfl)
theorem bi68 : BI Tryz.prog 68 [.string (mkS []), .slice none 0 0, .int .i64 0, .slice none 0 0] [(0, 2), (2, 1), (3, 1)] := BI.mk' zi68 Tryz.underlying68 (fun _ => by kernel_rfl)
theorem bi84 : BI Tryz.prog 84 [.int .i64 0, .slice none 0 0, .slice none 0 0] [(0, 1), (1, 1), (2, 1)] := BI.mk' zi84 Tryz.underlying84 (fun _ => by kernel_rfl)
theorem bi91 : BI Tryz.prog 91 [.int .i64 0, .int .i64 0, .string (mkS [])] [(0, 1), (1, 1), (2, 1)] := BI.mk' zi91 Tryz.underlying91 (fun _ => by kernel_rfl)
theorem bi93 : BI Tryz.prog 93 [.int .i64 0, .slice none 0 0] [(0, 1), (1, 1)] := BI.mk' zi93 Tryz.underlying93 (fun _ => by kernel_rfl)
theorem bi98 : BI Tryz.prog 98 [.string (mkS []), .int .i64 0, .bool false, .bool false] [(0, 1), (1, 1), (2, 1), (3, 1)] := BI.mk' zi98 Tryz.underlying98 (fun _ => by kernel_rfl)
theorem ci10 : CI Tryz.prog 10 := ⟨Tryz.f10, Tryz.func10, by kernel_rfl, by kernel_rfl⟩
theorem ci100 : CI Tryz.prog 100 := ⟨Tryz.f100, Tryz.func100, by kernel_rfl, by kernel_rfl⟩
theorem ci101 : CI Tryz.prog 101 := ⟨Tryz.f101, Tryz.func101, by kernel_rfl, by kernel_rfl⟩
theorem ci102 : CI Tryz.prog 102 := ⟨Tryz.f102, Tryz.func102, by kernel_rfl, by kernel_rfl⟩
theorem ci103 : CI Tryz.prog 103 := ⟨Tryz.f103, Tryz.func103, by kernel_rfl, by kernel_rfl⟩
theorem ci104 : CI Tryz.prog 104 := ⟨Tryz.f104, Tryz.func104, by kernel_rfl, by kernel_rfl⟩
theorem ci105 : CI Tryz.prog 105 := ⟨Tryz.f105, Tryz.func105, by kernel_rfl, by kernel_rfl⟩
theorem ci106 : CI Tryz.prog 106 := ⟨Tryz.f106, Tryz.func106, by kernel_rfl, by kernel_rfl⟩
theorem ci107 : CI Tryz.prog 107 := ⟨Tryz.f107, Tryz.func107, by kernel_rfl, by kernel_rfl⟩
theorem ci108 : CI Tryz.prog 108 := ⟨Tryz.f108, Tryz.func108, by kernel_rfl, by kernel_rfl⟩
theorem ci109 : CI Tryz.prog 109 := ⟨Tryz.f109, Tryz.func109, by kernel_rfl, by kernel_rfl⟩
theorem ci11 : CI Tryz.prog 11 := ⟨Tryz.f11, Tryz.func11, by kernel_rfl, by kernel_rfl⟩
theorem ci110 : CI Tryz.prog 110 := ⟨Tryz.f110, Tryz.func110, by kernel_rfl, by kernel_rfl⟩
theorem ci111 : CI Tryz.prog 111 := ⟨Tryz.f111, Tryz.func111, by kernel_rfl, by kernel_rfl⟩
theorem ci112 : CI Tryz.prog 112 := ⟨Tryz.f112, Tryz.func112, by kernel_rfl, by kernel_rfl⟩
theorem ci113 : CI Tryz.prog 113 := ⟨Tryz.f113, Tryz.func113, by kernel_rfl, by kernel_rfl⟩
theorem ci114 : CI Tryz.prog 114 := ⟨Tryz.f114, Tryz.func114, by kernel_rfl, by kernel_rfl⟩
theorem ci115 : CI Tryz.prog 115 := ⟨Tryz.f115, Tryz.func115, by kernel_rfl, by kernel_rfl⟩
theorem ci116 : CI Tryz.prog 116 := ⟨Tryz.f116, Tryz.func116, by kernel_rfl, by kernel_rfl⟩
theorem ci117 : CI Tryz.prog 117 := ⟨Tryz.f117, Tryz.func117, by kernel_rfl, by kernel_rfl⟩
theorem ci118 : CI Tryz.prog 118 := ⟨Tryz.f118, Tryz.func118, by kernel_rfl, by kernel_rfl⟩
theorem ci119 : CI Tryz.prog 119 := ⟨Tryz.f119, Tryz.func119, by kernel_rfl, by kernel_rfl⟩
theorem ci12 : CI Tryz.prog 12 := ⟨Tryz.f12, Tryz.func12, by kernel_rfl, by kernel_rfl⟩
theorem ci120 : CI Tryz.prog 120 := ⟨Tryz.f120, Tryz.func120, by kernel_rfl, by kernel_rfl⟩
theorem ci121 : CI Tryz.prog 121 := ⟨Tryz.f121, Tryz.func121, by kernel_rfl, by kernel_rfl⟩
theorem ci122 : CI Tryz.prog 122 := ⟨Tryz.f122, Tryz.func122, by kernel_rfl, by kernel_rfl⟩
theorem ci123 : CI Tryz.prog 123 := ⟨Tryz.f123, Tryz.func123, by kernel_rfl, by kernel_rfl⟩
theorem ci124 : CI Tryz.prog 124 := ⟨Tryz.f124, Tryz.func124, by kernel_rfl, by kernel_rfl⟩
theorem ci125 : CI Tryz.prog 125 := ⟨Tryz.f125, Tryz.func125, by kernel_rfl, by kernel_rfl⟩
theorem ci126 : CI Tryz.prog 126 := ⟨Tryz.f126, Tryz.func126, by kernel_rfl, by kernel_rfl⟩
theorem ci127 : CI Tryz.prog 127 := ⟨Tryz.f127, Tryz.func127, by kernel_rfl, by kernel_rfl⟩
theorem ci128 : CI Tryz.prog 128 := ⟨Tryz.f128, Tryz.func128, by kernel_rfl, by kernel_rfl⟩
theorem ci129 : CI Tryz.prog 129 := ⟨Tryz.f129, Tryz.func129, by kernel_rfl, by kernel_rfl⟩
theorem ci13 : CI Tryz.prog 13 := ⟨Tryz.f13, Tryz.func13, by kernel_rfl, by kernel_rfl⟩
theorem ci130 : CI Tryz.prog 130 := ⟨Tryz.f130, Tryz.func130, by kernel_rfl, by kernel_rfl⟩
theorem ci131 : CI Tryz.prog 131 := ⟨Tryz.f131, Tryz.func131, by kernel_rfl, by kernel_rfl⟩
theorem ci132 : CI Tryz.prog 132 := ⟨Tryz.f132, Tryz.func132, by kernel_rfl, by kernel_rfl⟩
theorem ci14 : CI Tryz.prog 14 := ⟨Tryz.f14, Tryz.func14, by kernel_rfl, by kernel_rfl⟩
theorem ci15 : CI Tryz.prog 15 := ⟨Tryz.f15, Tryz.func15, by kernel_rfl, by kernel_rfl⟩
theorem ci16 : CI Tryz.prog 16 := ⟨Tryz.f16, Tryz.func16, by kernel_rfl, by kernel_rfl⟩
theorem ci17 : CI Tryz.prog 17 := ⟨Tryz.f17, Tryz.func17, by kernel_rfl, by kernel_rfl⟩
theorem ci18 : CI Tryz.prog 18 := ⟨Tryz.f18, Tryz.func18, by kernel_rfl, by kernel_rfl⟩
theorem ci19 : CI Tryz.prog 19 := ⟨Tryz.f19, Tryz.func19, by kernel_rfl, by kernel_rfl⟩
theorem ci20 : CI Tryz.prog 20 := ⟨Tryz.f20, Tryz.func20, by kernel_rfl, by kernel_rfl⟩
theorem ci21 : CI Tryz.prog 21 := ⟨Tryz.f21, Tryz.func21, by kernel_rfl, by kernel_rfl⟩
theorem ci22 : CI Tryz.prog 22 := ⟨Tryz.f22, Tryz.func22, by kernel_rfl, by kernel_rfl⟩
theorem ci23 : CI Tryz.prog 23 := ⟨Tryz.f23, Tryz.func23, by kernel_rfl, by kernel_rfl⟩
theorem ci24 : CI Tryz.prog 24 := ⟨Tryz.f24, Tryz.func24, by kernel_rfl, by kernel_rfl⟩
theorem ci25 : CI Tryz.prog 25 := ⟨Tryz.f25, Tryz.func25, by kernel_rfl, by kernel_rfl⟩
theorem ci26 : CI Tryz.prog 26 := ⟨Tryz.f26, Tryz.func26, by kernel_rfl, by kernel_rfl⟩
theorem ci27 : CI Tryz.prog 27 := ⟨Tryz.f27, Tryz.func27, by kernel_rfl, by kernel_rfl⟩
theorem ci28 : CI Tryz.prog 28 := ⟨Tryz.f28, Tryz.func28, by kernel_rfl, by kernel_rfl⟩
theorem ci29 : CI Tryz.prog 29 := ⟨Tryz.f29, Tryz.func29, by kernel_rfl, by kernel_rfl⟩
theorem ci30 : CI Tryz.prog 30 := ⟨Tryz.f30, Tryz.func30, by kernel_rfl, by kernel_rfl⟩
theorem ci31 : CI Tryz.prog 31 := ⟨Tryz.f31, Tryz.func31, by kernel_rfl, by kernel_rfl⟩
theorem ci32 : CI Tryz.prog 32 := ⟨Tryz.f32, Tryz.func32, by kernel_rfl, by kernel_rfl⟩
theorem ci33 : CI Tryz.prog 33 := ⟨Tryz.f33, Tryz.func33, by kernel_rfl, by kernel_rfl⟩
theorem ci34 : CI Tryz.prog 34 := ⟨Tryz.f34, Tryz.func34, by kernel_rfl, by kernel_rfl⟩
theorem ci35 : CI Tryz.prog 35 := ⟨Tryz.f35, Tryz.func35, by kernel_rfl, by kernel_rfl⟩
theorem ci36 : CI Tryz.prog 36 := ⟨Tryz.f36, Tryz.func36, by kernel_rfl, by kernel_rfl⟩
theorem ci37 : CI Tryz.prog 37 := ⟨Tryz.f37, Tryz.func37, by kernel_rfl, by kernel_rfl⟩
theorem ci38 : CI Tryz.prog 38 := ⟨Tryz.f38, Tryz.func38, by kernel_rfl, by kernel_rfl⟩
theorem ci39 : CI Tryz.prog 39 := ⟨Tryz.f39, Tryz.func39, by kernel_rfl, by kernel_rfl⟩
theorem ci4 : CI Tryz.prog 4 := ⟨Tryz.f4, Tryz.func4, by kernel_rfl, by kernel_rfl⟩
theorem ci40 : CI Tryz.prog 40 := ⟨Tryz.f40, Tryz.func40, by kernel_rfl, by kernel_rfl⟩
theorem ci41 : CI Tryz.prog 41 := ⟨Tryz.f41, Tryz.func41, by kernel_rfl, by kernel_rfl⟩
theorem ci42 : CI Tryz.prog 42 := ⟨Tryz.f42, Tryz.func42, by kernel_rfl, by kernel_rfl⟩
theorem ci43 : CI Tryz.prog 43 := ⟨Tryz.f43, Tryz.func43, by kernel_rfl, by kernel_rfl⟩
theorem ci44 : CI Tryz.prog 44 := ⟨Tryz.f44, Tryz.func44, by kernel_rfl, by kernel_rfl⟩
theorem ci45 : CI Tryz.prog 45 := ⟨Tryz.f45, Tryz.func45, by kernel_rfl, by kernel_rfl⟩
theorem ci46 : CI Tryz.prog 46 := ⟨Tryz.f46, Tryz.func46, by kernel_rfl, by kernel_rfl⟩
theorem ci47 : CI Tryz.prog 47 := ⟨Tryz.f47, Tryz.func47, by kernel_rfl, by kernel_rfl⟩
theorem ci48 : CI Tryz.prog 48 := ⟨Tryz.f48, Tryz.func48, by kernel_rfl, by kernel_rfl⟩
theorem ci49 : CI Tryz.prog 49 := ⟨Tryz.f49, Tryz.func49, by kernel_rfl, by kernel_rfl⟩
theorem ci5 : CI Tryz.prog 5 := ⟨Tryz.f5, Tryz.func5, by kernel_rfl, by kernel_rfl⟩
theorem ci50 : CI Tryz.prog 50 := ⟨Tryz.f50, Tryz.func50, by kernel_rfl, by kernel_rfl⟩
theorem ci51 : CI Tryz.prog 51 := ⟨Tryz.f51, Tryz.func51, by kernel_rfl, by kernel_rfl⟩
theorem ci52 : CI Tryz.prog 52 := ⟨Tryz.f52, Tryz.func52, by kernel_rfl, by kernel_rfl⟩
theorem ci53 : CI Tryz.prog 53 := ⟨Tryz.f53, Tryz.func53, by kernel_rfl, by kernel_rfl⟩
theorem ci54 : CI Tryz.prog 54 := ⟨Tryz.f54, Tryz.func54, by kernel_rfl, by kernel_rfl⟩
theorem ci55 : CI Tryz.prog 55 := ⟨Tryz.f55, Tryz.func55, by kernel_rfl, by kernel_rfl⟩
theorem ci56 : CI Tryz.prog 56 := ⟨Tryz.f56, Tryz.func56, by kernel_rfl, by kernel_rfl⟩
theorem ci57 : CI Tryz.prog 57 := ⟨Tryz.f57, Tryz.func57, by kernel_rfl, by kernel_rfl⟩
theorem ci58 : CI Tryz.prog 58 := ⟨Tryz.f58, Tryz.func58, by kernel_rfl, by kernel_rfl⟩
theorem ci59 : CI Tryz.prog 59 := ⟨Tryz.f59, Tryz.func59, by kernel_rfl, by kernel_rfl⟩
theorem ci6 : CI Tryz.prog 6 := ⟨Tryz.f6, Tryz.func6, by kernel_rfl, by kernel_rfl⟩
theorem ci60 : CI Tryz.prog 60 := ⟨Tryz.f60, Tryz.func60, by kernel_rfl, by kernel_rfl⟩
theorem ci61 : CI Tryz.prog 61 := ⟨Tryz.f61, Tryz.func61, by kernel_rfl, by kernel_rfl⟩
theorem ci62 : CI Tryz.prog 62 := ⟨Tryz.f62, Tryz.func62, by kernel_rfl, by kernel_rfl⟩
theorem ci63 : CI Tryz.prog 63 := ⟨Tryz.f63, Tryz.func63, by kernel_rfl, by kernel_rfl⟩
theorem ci64 : CI Tryz.prog 64 := ⟨Tryz.f64, Tryz.func64, by kernel_rfl, by kernel_rfl⟩
theorem ci65 : CI Tryz.prog 65 := ⟨Tryz.f65, Tryz.func65, by kernel_rfl, by kernel_rfl⟩
theorem ci66 : CI Tryz.prog 66 := ⟨Tryz.f66, Tryz.func66, by kernel_rfl, by kernel_rfl⟩
theorem ci67 : CI Tryz.prog 67 := ⟨Tryz.f67, Tryz.func67, by kernel_rfl, by kernel_rfl⟩
theorem ci68 : CI Tryz.prog 68 := ⟨Tryz.f68, Tryz.func68, by kernel_rfl, by kernel_rfl⟩
theorem ci69 : CI Tryz.prog 69 := ⟨Tryz.f69, Tryz.func69, by kernel_rfl, by kernel_rfl⟩
theorem ci7 : CI Tryz.prog 7 := ⟨Tryz.f7, Tryz.func7, by kernel_rfl, by kernel_rfl⟩
theorem ci70 : CI Tryz.prog 70 := ⟨Tryz.f70, Tryz.func70, by kernel_rfl, by kernel_rfl⟩
theorem ci71 : CI Tryz.prog 71 := ⟨Tryz.f71, Tryz.func71, by kernel_rfl, by kernel_rfl⟩
theorem ci72 : CI Tryz.prog 72 := ⟨Tryz.f72, Tryz.func72, by kernel_rfl, by kernel_rfl⟩
theorem ci73 : CI Tryz.prog 73 := ⟨Tryz.f73, Tryz.func73, by kernel_rfl, by kernel_rfl⟩
theorem ci74 : CI Tryz.prog 74 := ⟨Tryz.f74, Tryz.func74, by kernel_rfl, by kernel_rfl⟩
theorem ci75 : CI Tryz.prog 75 := ⟨Tryz.f75, Tryz.func75, by kernel_rfl, by kernel_rfl⟩
theorem ci76 : CI Tryz.prog 76 := ⟨Tryz.f76, Tryz.func76, by kernel_rfl, by kernel_rfl⟩
theorem ci77 : CI Tryz.prog 77 := ⟨Tryz.f77, Tryz.func77, by kernel_rfl, by kernel_rfl⟩
theorem ci78 : CI Tryz.prog 78 := ⟨Tryz.f78, Tryz.func78, by kernel_rfl, by kernel_rfl⟩
theorem ci79 : CI Tryz.prog 79 := ⟨Tryz.f79, Tryz.func79, by kernel_rfl, by kernel_rfl⟩
theorem ci8 : CI Tryz.prog 8 := ⟨Tryz.f8, Tryz.func8, by kernel_rfl, by kernel_rfl⟩
theorem ci80 : CI Tryz.prog 80 := ⟨Tryz.f80, Tryz.func80, by kernel_rfl, by kernel_rfl⟩
theorem ci81 : CI Tryz.prog 81 := ⟨Tryz.f81, Tryz.func81, by kernel_rfl, by kernel_rfl⟩
theorem ci82 : CI Tryz.prog 82 := ⟨Tryz.f82, Tryz.func82, by kernel_rfl, by kernel_rfl⟩
theorem ci83 : CI Tryz.prog 83 := ⟨Tryz.f83, Tryz.func83, by kernel_rfl, by kernel_rfl⟩
theorem ci84 : CI Tryz.prog 84 := ⟨Tryz.f84, Tryz.func84, by kernel_rfl, by kernel_rfl⟩
theorem ci85 : CI Tryz.prog 85 := ⟨Tryz.f85, Tryz.func85, by kernel_rfl, by kernel_rfl⟩
theorem ci86 : CI Tryz.prog 86 := ⟨Tryz.f86, Tryz.func86, by kernel_rfl, by kernel_rfl⟩
theorem ci87 : CI Tryz.prog 87 := ⟨Tryz.f87, Tryz.func87, by kernel_rfl, by kernel_rfl⟩
theorem ci88 : CI Tryz.prog 88 := ⟨Tryz.f88, Tryz.func88, by kernel_rfl, by kernel_rfl⟩
theorem ci89 : CI Tryz.prog 89 := ⟨Tryz.f89, Tryz.func89, by kernel_rfl, by kernel_rfl⟩
theorem ci9 : CI Tryz.prog 9 := ⟨Tryz.f9, Tryz.func9, by kernel_rfl, by kernel_rfl⟩
theorem ci90 : CI Tryz.prog 90 := ⟨Tryz.f90, Tryz.func90, by kernel_rfl, by kernel_rfl⟩
theorem ci91 : CI Tryz.prog 91 := ⟨Tryz.f91, Tryz.func91, by kernel_rfl, by kernel_rfl⟩
theorem ci92 : CI Tryz.prog 92 := ⟨Tryz.f92, Tryz.func92, by kernel_rfl, by kernel_rfl⟩
theorem ci93 : CI Tryz.prog 93 := ⟨Tryz.f93, Tryz.func93, by kernel_rfl, by kernel_rfl⟩
theorem ci94 : CI Tryz.prog 94 := ⟨Tryz.f94, Tryz.func94, by kernel_rfl, by kernel_rfl⟩
theorem ci95 : CI Tryz.prog 95 := ⟨Tryz.f95, Tryz.func95, by kernel_rfl, by kernel_rfl⟩
theorem ci96 : CI Tryz.prog 96 := ⟨Tryz.f96, Tryz.func96, by kernel_rfl, by kernel_rfl⟩
theorem ci97 : CI Tryz.prog 97 := ⟨Tryz.f97, Tryz.func97, by kernel_rfl, by kernel_rfl⟩
theorem ci98 : CI Tryz.prog 98 := ⟨Tryz.f98, Tryz.func98, by kernel_rfl, by kernel_rfl⟩
theorem ci99 : CI Tryz.prog 99 := ⟨Tryz.f99, Tryz.func99, by kernel_rfl, by kernel_rfl⟩
theorem eg127 : Tryz.prog.eqGuardType Tryz.prog.depth 127 = false := by kernel_rfl
theorem eg91 : Tryz.prog.eqGuardType Tryz.prog.depth 91 = false := by kernel_rfl
theorem eg98 : Tryz.prog.eqGuardType Tryz.prog.depth 98 = false := by kernel_rfl
theorem eq127 (x y : GLink) (w : World) : (Op.equal 127 (.agg ([.string (mkS x.First), .string (mkS x.Second)] : List Value).toArray) (.agg ([.string (mkS y.First), .string (mkS y.Second)] : List Value).toArray)).run Tryz.prog w = .ok (decide (x = y)) w := by
  have h := eqA_of (us := [.string (mkS x.First), .string (mkS x.Second)]) (vs := [.string (mkS y.First), .string (mkS y.Second)]) (w := w) (fs := _) Tryz.underlying127 (by kernel_rfl) (eqf_cons rfl (by kernel_rfl) (by kernel_rfl) (eq_str x.First y.First Tryz.underlying9 w) (eqf_cons rfl (by kernel_rfl) (by kernel_rfl) (eq_str x.Second y.Second Tryz.underlying9 w) eqf_nil))
  rw [h]; congr 1; rw [Bool.eq_iff_iff]
  obtain ⟨x0, x1⟩ := x; obtain ⟨y0, y1⟩ := y; simp
theorem eq91 (x y : GValue) (w : World) : (Op.equal 91 (.agg ([.int .i64 x.Kind, .int .i64 x.Int, .string (mkS x.Text)] : List Value).toArray) (.agg ([.int .i64 y.Kind, .int .i64 y.Int, .string (mkS y.Text)] : List Value).toArray)).run Tryz.prog w = .ok (decide (x = y)) w := by
  have h := eqA_of (us := [.int .i64 x.Kind, .int .i64 x.Int, .string (mkS x.Text)]) (vs := [.int .i64 y.Kind, .int .i64 y.Int, .string (mkS y.Text)]) (w := w) (fs := _) Tryz.underlying91 (by kernel_rfl) (eqf_cons rfl (by kernel_rfl) (by kernel_rfl) (eq_int .i64 .i64 x.Kind y.Kind Tryz.underlying3 w) (eqf_cons rfl (by kernel_rfl) (by kernel_rfl) (eq_int .i64 .i64 x.Int y.Int Tryz.underlying2 w) (eqf_cons rfl (by kernel_rfl) (by kernel_rfl) (eq_str x.Text y.Text Tryz.underlying9 w) eqf_nil)))
  rw [h]; congr 1; rw [Bool.eq_iff_iff]
  obtain ⟨x0, x1, x2⟩ := x; obtain ⟨y0, y1, y2⟩ := y; simp
theorem eq98 (x y : GColumn) (w : World) : (Op.equal 98 (.agg ([.string (mkS x.Name), .int .i64 x.Typ, .bool x.NotNull, .bool x.Key] : List Value).toArray) (.agg ([.string (mkS y.Name), .int .i64 y.Typ, .bool y.NotNull, .bool y.Key] : List Value).toArray)).run Tryz.prog w = .ok (decide (x = y)) w := by
  have h := eqA_of (us := [.string (mkS x.Name), .int .i64 x.Typ, .bool x.NotNull, .bool x.Key]) (vs := [.string (mkS y.Name), .int .i64 y.Typ, .bool y.NotNull, .bool y.Key]) (w := w) (fs := _) Tryz.underlying98 (by kernel_rfl) (eqf_cons rfl (by kernel_rfl) (by kernel_rfl) (eq_str x.Name y.Name Tryz.underlying9 w) (eqf_cons rfl (by kernel_rfl) (by kernel_rfl) (eq_int .i64 .i64 x.Typ y.Typ Tryz.underlying3 w) (eqf_cons rfl (by kernel_rfl) (by kernel_rfl) (eq_bool x.NotNull y.NotNull Tryz.underlying4 w) (eqf_cons rfl (by kernel_rfl) (by kernel_rfl) (eq_bool x.Key y.Key Tryz.underlying4 w) eqf_nil))))
  rw [h]; congr 1; rw [Bool.eq_iff_iff]
  obtain ⟨x0, x1, x2, x3⟩ := x; obtain ⟨y0, y1, y2, y3⟩ := y; simp
theorem fg68_0 : FG Tryz.prog 68 0 0 49 := FG.mk' Tryz.underlying68 rfl rfl rfl
theorem fi102_0 : FI Tryz.prog 102 0 0 := FI.mk' (n := 0) Tryz.underlying102 rfl rfl (by kernel_rfl)
theorem fi102_1 : FI Tryz.prog 102 1 1 := FI.mk' (n := 0) Tryz.underlying102 rfl rfl (by kernel_rfl)
theorem fi106_0 : FI Tryz.prog 106 0 0 := FI.mk' (n := 0) Tryz.underlying106 rfl rfl (by kernel_rfl)
theorem fi106_1 : FI Tryz.prog 106 1 1 := FI.mk' (n := 0) Tryz.underlying106 rfl rfl (by kernel_rfl)
theorem fi106_2 : FI Tryz.prog 106 2 2 := FI.mk' (n := 0) Tryz.underlying106 rfl rfl (by kernel_rfl)
theorem fi106_3 : FI Tryz.prog 106 3 3 := FI.mk' (n := 2) Tryz.underlying106 rfl rfl (by kernel_rfl)
theorem fi106_4 : FI Tryz.prog 106 4 6 := FI.mk' (n := 0) Tryz.underlying106 rfl rfl (by kernel_rfl)
theorem fi106_5 : FI Tryz.prog 106 5 7 := FI.mk' (n := 0) Tryz.underlying106 rfl rfl (by kernel_rfl)
theorem fi106_6 : FI Tryz.prog 106 6 8 := FI.mk' (n := 0) Tryz.underlying106 rfl rfl (by kernel_rfl)
theorem fi106_7 : FI Tryz.prog 106 7 9 := FI.mk' (n := 0) Tryz.underlying106 rfl rfl (by kernel_rfl)
theorem fi111_0 : FI Tryz.prog 111 0 0 := FI.mk' (n := 0) Tryz.underlying111 rfl rfl (by kernel_rfl)
theorem fi111_1 : FI Tryz.prog 111 1 1 := FI.mk' (n := 0) Tryz.underlying111 rfl rfl (by kernel_rfl)
theorem fi111_2 : FI Tryz.prog 111 2 2 := FI.mk' (n := 0) Tryz.underlying111 rfl rfl (by kernel_rfl)
theorem fi111_3 : FI Tryz.prog 111 3 3 := FI.mk' (n := 0) Tryz.underlying111 rfl rfl (by kernel_rfl)
theorem fi111_4 : FI Tryz.prog 111 4 4 := FI.mk' (n := 0) Tryz.underlying111 rfl rfl (by kernel_rfl)
theorem fi111_5 : FI Tryz.prog 111 5 5 := FI.mk' (n := 0) Tryz.underlying111 rfl rfl (by kernel_rfl)
theorem fi111_6 : FI Tryz.prog 111 6 6 := FI.mk' (n := 0) Tryz.underlying111 rfl rfl (by kernel_rfl)
theorem fi117_0 : FI Tryz.prog 117 0 0 := FI.mk' (n := 0) Tryz.underlying117 rfl rfl (by kernel_rfl)
theorem fi117_1 : FI Tryz.prog 117 1 1 := FI.mk' (n := 0) Tryz.underlying117 rfl rfl (by kernel_rfl)
theorem fi117_2 : FI Tryz.prog 117 2 2 := FI.mk' (n := 0) Tryz.underlying117 rfl rfl (by kernel_rfl)
theorem fi117_3 : FI Tryz.prog 117 3 3 := FI.mk' (n := 0) Tryz.underlying117 rfl rfl (by kernel_rfl)
theorem fi127_0 : FI Tryz.prog 127 0 0 := FI.mk' (n := 0) Tryz.underlying127 rfl rfl (by kernel_rfl)
theorem fi127_1 : FI Tryz.prog 127 1 1 := FI.mk' (n := 0) Tryz.underlying127 rfl rfl (by kernel_rfl)
theorem fi156_0 : FI Tryz.prog 156 0 0 := FI.mk' (n := 0) Tryz.underlying156 rfl rfl (by kernel_rfl)
theorem fi156_1 : FI Tryz.prog 156 1 1 := FI.mk' (n := 9) Tryz.underlying156 rfl rfl (by kernel_rfl)
theorem fi166_0 : FI Tryz.prog 166 0 0 := FI.mk' (n := 0) Tryz.underlying166 rfl rfl (by kernel_rfl)
theorem fi166_1 : FI Tryz.prog 166 1 1 := FI.mk' (n := 0) Tryz.underlying166 rfl rfl (by kernel_rfl)
theorem fi166_2 : FI Tryz.prog 166 2 2 := FI.mk' (n := 0) Tryz.underlying166 rfl rfl (by kernel_rfl)
theorem fi186_0 : FI Tryz.prog 186 0 0 := FI.mk' (n := 0) Tryz.underlying186 rfl rfl (by kernel_rfl)
theorem fi186_1 : FI Tryz.prog 186 1 1 := FI.mk' (n := 0) Tryz.underlying186 rfl rfl (by kernel_rfl)
theorem fi186_2 : FI Tryz.prog 186 2 2 := FI.mk' (n := 0) Tryz.underlying186 rfl rfl (by kernel_rfl)
theorem fi186_3 : FI Tryz.prog 186 3 3 := FI.mk' (n := 0) Tryz.underlying186 rfl rfl (by kernel_rfl)
theorem fi40_0 : FI Tryz.prog 40 0 0 := FI.mk' (n := 0) Tryz.underlying40 rfl rfl (by kernel_rfl)
theorem fi40_1 : FI Tryz.prog 40 1 1 := FI.mk' (n := 0) Tryz.underlying40 rfl rfl (by kernel_rfl)
theorem fi40_10 : FI Tryz.prog 40 10 10 := FI.mk' (n := 0) Tryz.underlying40 rfl rfl (by kernel_rfl)
theorem fi40_2 : FI Tryz.prog 40 2 2 := FI.mk' (n := 0) Tryz.underlying40 rfl rfl (by kernel_rfl)
theorem fi40_3 : FI Tryz.prog 40 3 3 := FI.mk' (n := 0) Tryz.underlying40 rfl rfl (by kernel_rfl)
theorem fi40_4 : FI Tryz.prog 40 4 4 := FI.mk' (n := 0) Tryz.underlying40 rfl rfl (by kernel_rfl)
theorem fi40_5 : FI Tryz.prog 40 5 5 := FI.mk' (n := 0) Tryz.underlying40 rfl rfl (by kernel_rfl)
theorem fi40_6 : FI Tryz.prog 40 6 6 := FI.mk' (n := 0) Tryz.underlying40 rfl rfl (by kernel_rfl)
theorem fi40_7 : FI Tryz.prog 40 7 7 := FI.mk' (n := 0) Tryz.underlying40 rfl rfl (by kernel_rfl)
theorem fi40_8 : FI Tryz.prog 40 8 8 := FI.mk' (n := 0) Tryz.underlying40 rfl rfl (by kernel_rfl)
theorem fi40_9 : FI Tryz.prog 40 9 9 := FI.mk' (n := 0) Tryz.underlying40 rfl rfl (by kernel_rfl)
theorem fi44_0 : FI Tryz.prog 44 0 0 := FI.mk' (n := 0) Tryz.underlying44 rfl rfl (by kernel_rfl)
theorem fi44_1 : FI Tryz.prog 44 1 1 := FI.mk' (n := 0) Tryz.underlying44 rfl rfl (by kernel_rfl)
theorem fi44_2 : FI Tryz.prog 44 2 2 := FI.mk' (n := 0) Tryz.underlying44 rfl rfl (by kernel_rfl)
theorem fi44_3 : FI Tryz.prog 44 3 3 := FI.mk' (n := 0) Tryz.underlying44 rfl rfl (by kernel_rfl)
theorem fi49_0 : FI Tryz.prog 49 0 0 := FI.mk' (n := 0) Tryz.underlying49 rfl rfl (by kernel_rfl)
theorem fi49_1 : FI Tryz.prog 49 1 1 := FI.mk' (n := 0) Tryz.underlying49 rfl rfl (by kernel_rfl)
theorem fi53_0 : FI Tryz.prog 53 0 0 := FI.mk' (n := 0) Tryz.underlying53 rfl rfl (by kernel_rfl)
theorem fi53_1 : FI Tryz.prog 53 1 1 := FI.mk' (n := 0) Tryz.underlying53 rfl rfl (by kernel_rfl)
theorem fi53_2 : FI Tryz.prog 53 2 2 := FI.mk' (n := 0) Tryz.underlying53 rfl rfl (by kernel_rfl)
theorem fi53_3 : FI Tryz.prog 53 3 3 := FI.mk' (n := 0) Tryz.underlying53 rfl rfl (by kernel_rfl)
theorem fi57_0 : FI Tryz.prog 57 0 0 := FI.mk' (n := 0) Tryz.underlying57 rfl rfl (by kernel_rfl)
theorem fi57_1 : FI Tryz.prog 57 1 1 := FI.mk' (n := 0) Tryz.underlying57 rfl rfl (by kernel_rfl)
theorem fi68_0 : FI Tryz.prog 68 0 0 := FI.mk' (n := 1) Tryz.underlying68 rfl rfl (by kernel_rfl)
theorem fi68_1 : FI Tryz.prog 68 1 2 := FI.mk' (n := 0) Tryz.underlying68 rfl rfl (by kernel_rfl)
theorem fi68_2 : FI Tryz.prog 68 2 3 := FI.mk' (n := 0) Tryz.underlying68 rfl rfl (by kernel_rfl)
theorem fi73_0 : FI Tryz.prog 73 0 0 := FI.mk' (n := 0) Tryz.underlying73 rfl rfl (by kernel_rfl)
theorem fi73_1 : FI Tryz.prog 73 1 1 := FI.mk' (n := 0) Tryz.underlying73 rfl rfl (by kernel_rfl)
theorem fi73_2 : FI Tryz.prog 73 2 2 := FI.mk' (n := 0) Tryz.underlying73 rfl rfl (by kernel_rfl)
theorem fi84_0 : FI Tryz.prog 84 0 0 := FI.mk' (n := 0) Tryz.underlying84 rfl rfl (by kernel_rfl)
theorem fi84_1 : FI Tryz.prog 84 1 1 := FI.mk' (n := 0) Tryz.underlying84 rfl rfl (by kernel_rfl)
theorem fi84_2 : FI Tryz.prog 84 2 2 := FI.mk' (n := 0) Tryz.underlying84 rfl rfl (by kernel_rfl)
theorem fi91_0 : FI Tryz.prog 91 0 0 := FI.mk' (n := 0) Tryz.underlying91 rfl rfl (by kernel_rfl)
theorem fi91_1 : FI Tryz.prog 91 1 1 := FI.mk' (n := 0) Tryz.underlying91 rfl rfl (by kernel_rfl)
theorem fi91_2 : FI Tryz.prog 91 2 2 := FI.mk' (n := 0) Tryz.underlying91 rfl rfl (by kernel_rfl)
theorem fi93_0 : FI Tryz.prog 93 0 0 := FI.mk' (n := 0) Tryz.underlying93 rfl rfl (by kernel_rfl)
theorem fi93_1 : FI Tryz.prog 93 1 1 := FI.mk' (n := 0) Tryz.underlying93 rfl rfl (by kernel_rfl)
theorem fi98_0 : FI Tryz.prog 98 0 0 := FI.mk' (n := 0) Tryz.underlying98 rfl rfl (by kernel_rfl)
theorem fi98_1 : FI Tryz.prog 98 1 1 := FI.mk' (n := 0) Tryz.underlying98 rfl rfl (by kernel_rfl)
theorem fi98_2 : FI Tryz.prog 98 2 2 := FI.mk' (n := 0) Tryz.underlying98 rfl rfl (by kernel_rfl)
theorem fi98_3 : FI Tryz.prog 98 3 3 := FI.mk' (n := 0) Tryz.underlying98 rfl rfl (by kernel_rfl)
theorem si100 : SI Tryz.prog 100 166 4 := ⟨Tryz.underlying100, by kernel_rfl⟩
theorem si104 : SI Tryz.prog 104 186 4 := ⟨Tryz.underlying104, by kernel_rfl⟩
theorem si108 : SI Tryz.prog 108 37 1 := ⟨Tryz.underlying108, by kernel_rfl⟩
theorem si109 : SI Tryz.prog 109 156 11 := ⟨Tryz.underlying109, by kernel_rfl⟩
theorem si22 : SI Tryz.prog 22 3 1 := ⟨Tryz.underlying22, by kernel_rfl⟩
theorem si25 : SI Tryz.prog 25 40 11 := ⟨Tryz.underlying25, by kernel_rfl⟩
theorem si26 : SI Tryz.prog 26 127 2 := ⟨Tryz.underlying26, by kernel_rfl⟩
theorem si29 : SI Tryz.prog 29 68 4 := ⟨Tryz.underlying29, by kernel_rfl⟩
theorem si30 : SI Tryz.prog 30 44 4 := ⟨Tryz.underlying30, by kernel_rfl⟩
theorem si33 : SI Tryz.prog 33 53 4 := ⟨Tryz.underlying33, by kernel_rfl⟩
theorem si35 : SI Tryz.prog 35 9 1 := ⟨Tryz.underlying35, by kernel_rfl⟩
theorem si36 : SI Tryz.prog 36 117 4 := ⟨Tryz.underlying36, by kernel_rfl⟩
theorem si37 : SI Tryz.prog 37 106 10 := ⟨Tryz.underlying37, by kernel_rfl⟩
theorem si38 : SI Tryz.prog 38 111 7 := ⟨Tryz.underlying38, by kernel_rfl⟩
theorem si41 : SI Tryz.prog 41 93 2 := ⟨Tryz.underlying41, by kernel_rfl⟩
theorem si42 : SI Tryz.prog 42 84 3 := ⟨Tryz.underlying42, by kernel_rfl⟩
theorem si47 : SI Tryz.prog 47 98 4 := ⟨Tryz.underlying47, by kernel_rfl⟩
theorem si51 : SI Tryz.prog 51 91 3 := ⟨Tryz.underlying51, by kernel_rfl⟩
theorem si71 : SI Tryz.prog 71 51 1 := ⟨Tryz.underlying71, by kernel_rfl⟩
theorem si88 : SI Tryz.prog 88 49 2 := ⟨Tryz.underlying88, by kernel_rfl⟩
theorem ti100 : TI Tryz.prog 100 false 1 := ⟨⟨_, Tryz.underlying100, rfl⟩, by kernel_rfl⟩
theorem ti102 : TI Tryz.prog 102 true 2 := ⟨⟨_, Tryz.underlying102, rfl⟩, by kernel_rfl⟩
theorem ti104 : TI Tryz.prog 104 false 1 := ⟨⟨_, Tryz.underlying104, rfl⟩, by kernel_rfl⟩
theorem ti106 : TI Tryz.prog 106 true 10 := ⟨⟨_, Tryz.underlying106, rfl⟩, by kernel_rfl⟩
theorem ti108 : TI Tryz.prog 108 false 1 := ⟨⟨_, Tryz.underlying108, rfl⟩, by kernel_rfl⟩
theorem ti109 : TI Tryz.prog 109 false 1 := ⟨⟨_, Tryz.underlying109, rfl⟩, by kernel_rfl⟩
theorem ti111 : TI Tryz.prog 111 true 7 := ⟨⟨_, Tryz.underlying111, rfl⟩, by kernel_rfl⟩
theorem ti117 : TI Tryz.prog 117 true 4 := ⟨⟨_, Tryz.underlying117, rfl⟩, by kernel_rfl⟩
theorem ti127 : TI Tryz.prog 127 true 2 := ⟨⟨_, Tryz.underlying127, rfl⟩, by kernel_rfl⟩
theorem ti156 : TI Tryz.prog 156 true 11 := ⟨⟨_, Tryz.underlying156, rfl⟩, by kernel_rfl⟩
theorem ti166 : TI Tryz.prog 166 true 4 := ⟨⟨_, Tryz.underlying166, rfl⟩, by kernel_rfl⟩
theorem ti186 : TI Tryz.prog 186 true 4 := ⟨⟨_, Tryz.underlying186, rfl⟩, by kernel_rfl⟩
theorem ti2 : TI Tryz.prog 2 false 1 := ⟨⟨_, Tryz.underlying2, rfl⟩, by kernel_rfl⟩
theorem ti22 : TI Tryz.prog 22 false 1 := ⟨⟨_, Tryz.underlying22, rfl⟩, by kernel_rfl⟩
theorem ti3 : TI Tryz.prog 3 false 1 := ⟨⟨_, Tryz.underlying3, rfl⟩, by kernel_rfl⟩
theorem ti35 : TI Tryz.prog 35 false 1 := ⟨⟨_, Tryz.underlying35, rfl⟩, by kernel_rfl⟩
theorem ti36 : TI Tryz.prog 36 false 1 := ⟨⟨_, Tryz.underlying36, rfl⟩, by kernel_rfl⟩
theorem ti37 : TI Tryz.prog 37 false 1 := ⟨⟨_, Tryz.underlying37, rfl⟩, by kernel_rfl⟩
theorem ti38 : TI Tryz.prog 38 false 1 := ⟨⟨_, Tryz.underlying38, rfl⟩, by kernel_rfl⟩
theorem ti4 : TI Tryz.prog 4 false 1 := ⟨⟨_, Tryz.underlying4, rfl⟩, by kernel_rfl⟩
theorem ti40 : TI Tryz.prog 40 true 11 := ⟨⟨_, Tryz.underlying40, rfl⟩, by kernel_rfl⟩
theorem ti41 : TI Tryz.prog 41 false 1 := ⟨⟨_, Tryz.underlying41, rfl⟩, by kernel_rfl⟩
theorem ti42 : TI Tryz.prog 42 false 1 := ⟨⟨_, Tryz.underlying42, rfl⟩, by kernel_rfl⟩
theorem ti44 : TI Tryz.prog 44 true 4 := ⟨⟨_, Tryz.underlying44, rfl⟩, by kernel_rfl⟩
theorem ti47 : TI Tryz.prog 47 false 1 := ⟨⟨_, Tryz.underlying47, rfl⟩, by kernel_rfl⟩
theorem ti49 : TI Tryz.prog 49 true 2 := ⟨⟨_, Tryz.underlying49, rfl⟩, by kernel_rfl⟩
theorem ti51 : TI Tryz.prog 51 false 1 := ⟨⟨_, Tryz.underlying51, rfl⟩, by kernel_rfl⟩
theorem ti53 : TI Tryz.prog 53 true 4 := ⟨⟨_, Tryz.underlying53, rfl⟩, by kernel_rfl⟩
theorem ti68 : TI Tryz.prog 68 true 4 := ⟨⟨_, Tryz.underlying68, rfl⟩, by kernel_rfl⟩
theorem ti71 : TI Tryz.prog 71 false 1 := ⟨⟨_, Tryz.underlying71, rfl⟩, by kernel_rfl⟩
theorem ti73 : TI Tryz.prog 73 true 3 := ⟨⟨_, Tryz.underlying73, rfl⟩, by kernel_rfl⟩
theorem ti84 : TI Tryz.prog 84 true 3 := ⟨⟨_, Tryz.underlying84, rfl⟩, by kernel_rfl⟩
theorem ti88 : TI Tryz.prog 88 false 1 := ⟨⟨_, Tryz.underlying88, rfl⟩, by kernel_rfl⟩
theorem ti9 : TI Tryz.prog 9 false 1 := ⟨⟨_, Tryz.underlying9, rfl⟩, by kernel_rfl⟩
theorem ti91 : TI Tryz.prog 91 true 3 := ⟨⟨_, Tryz.underlying91, rfl⟩, by kernel_rfl⟩
theorem ti93 : TI Tryz.prog 93 true 2 := ⟨⟨_, Tryz.underlying93, rfl⟩, by kernel_rfl⟩
theorem ti98 : TI Tryz.prog 98 true 4 := ⟨⟨_, Tryz.underlying98, rfl⟩, by kernel_rfl⟩
theorem zv4 (w : World) : (zeroValue 4).run Tryz.prog w = .ok (.bool false) w := by kernel_rfl
def GValue.val (x : GValue) : Value := .agg ([.int .i64 x.Kind, .int .i64 x.Int, .string (mkS x.Text)] : List Value).toArray
theorem kt3 : KT Tryz.prog 3 (fun x : Int => .int .i64 x) := KT.int Tryz.underlying3
theorem kt91 : KT Tryz.prog 91 GValue.val := KT.struct Tryz.underlying91 (fun x y w => eq91 x y w) (fun em a w => by kernel_rfl) (fun a => by simp [GValue.val, Instr.sameBits, mkS_beq])
def tab : Tab := Tab.of [(2, (false, 1)), (3, (false, 1)), (4, (false, 1)), (9, (false, 1)), (22, (false, 1)), (35, (false, 1)), (36, (false, 1)), (37, (false, 1)), (38, (false, 1)), (40, (true, 11)), (41, (false, 1)), (42, (false, 1)), (44, (true, 4)), (47, (false, 1)), (49, (true, 2)), (51, (false, 1)), (53, (true, 4)), (68, (true, 4)), (71, (false, 1)), (73, (true, 3)), (84, (true, 3)), (88, (false, 1)), (91, (true, 3)), (93, (true, 2)), (98, (true, 4)), (100, (false, 1)), (102, (true, 2)), (104, (false, 1)), (106, (true, 10)), (108, (false, 1)), (109, (false, 1)), (111, (true, 7)), (117, (true, 4)), (127, (true, 2)), (156, (true, 11)), (166, (true, 4)), (186, (true, 4))]
  [(4000, 0), (4001, 1), (4002, 2), (4003, 3), (4004, 4), (4005, 5), (4006, 6), (4007, 7), (4008, 8), (4009, 9), (4010, 10), (4400, 0), (4401, 1), (4402, 2), (4403, 3), (4900, 0), (4901, 1), (5300, 0), (5301, 1), (5302, 2), (5303, 3), (5700, 0), (5701, 1), (6800, 0), (6801, 2), (6802, 3), (7300, 0), (7301, 1), (7302, 2), (8400, 0), (8401, 1), (8402, 2), (9100, 0), (9101, 1), (9102, 2), (9300, 0), (9301, 1), (9800, 0), (9801, 1), (9802, 2), (9803, 3), (10200, 0), (10201, 1), (10600, 0), (10601, 1), (10602, 2), (10603, 3), (10604, 6), (10605, 7), (10606, 8), (10607, 9), (11100, 0), (11101, 1), (11102, 2), (11103, 3), (11104, 4), (11105, 5), (11106, 6), (11700, 0), (11701, 1), (11702, 2), (11703, 3), (12700, 0), (12701, 1), (15600, 0), (15601, 1), (16600, 0), (16601, 1), (16602, 2), (18600, 0), (18601, 1), (18602, 2), (18603, 3)]
  [(3, [.int .i64 0]), (9, [.string (mkS [])]), (37, [.slice none 0 0]), (40, [.string (mkS []), .string (mkS []), .bool false, .int .i64 0, .slice none 0 0, .bool false, .slice none 0 0, .slice none 0 0, .slice none 0 0, .slice none 0 0, .slice none 0 0]), (44, [.string (mkS []), .slice none 0 0, .slice none 0 0, .slice none 0 0]), (49, [.string (mkS []), .slice none 0 0]), (51, [.slice none 0 0]), (53, [.string (mkS []), .int .i64 0, .slice none 0 0, .slice none 0 0]), (57, [.slice none 0 0, .int .i64 0]), (68, [.string (mkS []), .slice none 0 0, .int .i64 0, .slice none 0 0]), (73, [.slice none 0 0, .slice none 0 0, .slice none 0 0]), (84, [.int .i64 0, .slice none 0 0, .slice none 0 0]), (91, [.int .i64 0, .int .i64 0, .string (mkS [])]), (93, [.int .i64 0, .slice none 0 0]), (98, [.string (mkS []), .int .i64 0, .bool false, .bool false]), (102, [.slice none 0 0, .slice none 0 0]), (106, [.int .i64 0, .int .i64 0, .bool false, .int .i64 0, .int .i64 0, .string (mkS []), .string (mkS []), .string (mkS []), .slice none 0 0, .slice none 0 0]), (111, [.int .i64 0, .string (mkS []), .slice none 0 0, .slice none 0 0, .slice none 0 0, .slice none 0 0, .string (mkS [])]), (117, [.string (mkS []), .string (mkS []), .int .i64 0, .int .i64 0]), (127, [.string (mkS []), .string (mkS [])]), (156, [.string (mkS []), .int .i64 0, .int .i64 0, .bool false, .int .i64 0, .int .i64 0, .string (mkS []), .string (mkS []), .string (mkS []), .slice none 0 0, .slice none 0 0]), (166, [.string (mkS []), .bool false, .slice none 0 0, .slice none 0 0]), (186, [.bool false, .slice none 0 0, .string (mkS []), .slice none 0 0])]
theorem tok : TabOK Tryz.prog tab := TabOK.of ⟨ti2, ti3, ti4, ti9, ti22, ti35, ti36, ti37, ti38, ti40, ti41, ti42, ti44, ti47, ti49, ti51, ti53, ti68, ti71, ti73, ti84, ti88, ti91, ti93, ti98, ti100, ti102, ti104, ti106, ti108, ti109, ti111, ti117, ti127, ti156, ti166, ti186, trivial⟩
  ⟨fi40_0, fi40_1, fi40_2, fi40_3, fi40_4, fi40_5, fi40_6, fi40_7, fi40_8, fi40_9, fi40_10, fi44_0, fi44_1, fi44_2, fi44_3, fi49_0, fi49_1, fi53_0, fi53_1, fi53_2, fi53_3, fi57_0, fi57_1, fi68_0, fi68_1, fi68_2, fi73_0, fi73_1, fi73_2, fi84_0, fi84_1, fi84_2, fi91_0, fi91_1, fi91_2, fi93_0, fi93_1, fi98_0, fi98_1, fi98_2, fi98_3, fi102_0, fi102_1, fi106_0, fi106_1, fi106_2, fi106_3, fi106_4, fi106_5, fi106_6, fi106_7, fi111_0, fi111_1, fi111_2, fi111_3, fi111_4, fi111_5, fi111_6, fi117_0, fi117_1, fi117_2, fi117_3, fi127_0, fi127_1, fi156_0, fi156_1, fi166_0, fi166_1, fi166_2, fi186_0, fi186_1, fi186_2, fi186_3, trivial⟩
  ⟨zi3, zi9, zi37, zi40, zi44, zi49, zi51, zi53, zi57, zi68, zi73, zi84, zi91, zi93, zi98, zi102, zi106, zi111, zi117, zi127, zi156, zi166, zi186, trivial⟩
def tbl : Tb := Tb.of tab [(22, (3, 1)), (25, (40, 11)), (26, (127, 2)), (29, (68, 4)), (30, (44, 4)), (33, (53, 4)), (35, (9, 1)), (36, (117, 4)), (37, (106, 10)), (38, (111, 7)), (41, (93, 2)), (42, (84, 3)), (47, (98, 4)), (51, (91, 3)), (71, (51, 1)), (88, (49, 2)), (100, (166, 4)), (104, (186, 4)), (108, (37, 1)), (109, (156, 11))]
  [(22, (3, 1, 8)), (25, (40, 11, 200)), (26, (127, 2, 32)), (29, (68, 4, 72)), (30, (44, 4, 88)), (33, (53, 4, 72)), (35, (9, 1, 16)), (37, (106, 10, 136)), (38, (111, 7, 136)), (41, (93, 2, 32)), (42, (84, 3, 56)), (47, (98, 4, 32)), (51, (91, 3, 32)), (71, (51, 1, 24)), (88, (49, 2, 40)), (100, (166, 4, 72)), (108, (37, 1, 24)), (109, (156, 11, 152))]
  [(40, ([.string (mkS []), .string (mkS []), .bool false, .int .i64 0, .slice none 0 0, .bool false, .slice none 0 0, .slice none 0 0, .slice none 0 0, .slice none 0 0, .slice none 0 0], [(0, 1), (1, 1), (2, 1), (3, 1), (4, 1), (5, 1), (6, 1), (7, 1), (8, 1), (9, 1), (10, 1)])), (44, ([.string (mkS []), .slice none 0 0, .slice none 0 0, .slice none 0 0], [(0, 1), (1, 1), (2, 1), (3, 1)])), (49, ([.string (mkS []), .slice none 0 0], [(0, 1), (1, 1)])), (53, ([.string (mkS []), .int .i64 0, .slice none 0 0, .slice none 0 0], [(0, 1), (1, 1), (2, 1), (3, 1)])), (57, ([.slice none 0 0, .int .i64 0], [(0, 1), (1, 1)])), (68, ([.string (mkS []), .slice none 0 0, .int .i64 0, .slice none 0 0], [(0, 2), (2, 1), (3, 1)])), (84, ([.int .i64 0, .slice none 0 0, .slice none 0 0], [(0, 1), (1, 1), (2, 1)])), (91, ([.int .i64 0, .int .i64 0, .string (mkS [])], [(0, 1), (1, 1), (2, 1)])), (93, ([.int .i64 0, .slice none 0 0], [(0, 1), (1, 1)])), (98, ([.string (mkS []), .int .i64 0, .bool false, .bool false], [(0, 1), (1, 1), (2, 1), (3, 1)])), (102, ([.slice none 0 0, .slice none 0 0], [(0, 1), (1, 1)])), (106, ([.int .i64 0, .int .i64 0, .bool false, .int .i64 0, .int .i64 0, .string (mkS []), .string (mkS []), .string (mkS []), .slice none 0 0, .slice none 0 0], [(0, 1), (1, 1), (2, 1), (3, 3), (6, 1), (7, 1), (8, 1), (9, 1)])), (111, ([.int .i64 0, .string (mkS []), .slice none 0 0, .slice none 0 0, .slice none 0 0, .slice none 0 0, .string (mkS [])], [(0, 1), (1, 1), (2, 1), (3, 1), (4, 1), (5, 1), (6, 1)])), (117, ([.string (mkS []), .string (mkS []), .int .i64 0, .int .i64 0], [(0, 1), (1, 1), (2, 1), (3, 1)])), (127, ([.string (mkS []), .string (mkS [])], [(0, 1), (1, 1)])), (156, ([.string (mkS []), .int .i64 0, .int .i64 0, .bool false, .int .i64 0, .int .i64 0, .string (mkS []), .string (mkS []), .string (mkS []), .slice none 0 0, .slice none 0 0], [(0, 1), (1, 10)])), (166, ([.string (mkS []), .bool false, .slice none 0 0, .slice none 0 0], [(0, 1), (1, 1), (2, 1), (3, 1)])), (186, ([.bool false, .slice none 0 0, .string (mkS []), .slice none 0 0], [(0, 1), (1, 1), (2, 1), (3, 1)]))]
  [(6800, (0, 49))]
  []
  [(9, ())]
  [(4, ())]
  [(60, (8, 9, 1)), (187, (6, 9, 1))]
  [(4, ()), (5, ()), (6, ()), (7, ()), (8, ()), (9, ()), (10, ()), (11, ()), (12, ()), (13, ()), (14, ()), (15, ()), (16, ()), (17, ()), (18, ()), (19, ()), (20, ()), (21, ()), (22, ()), (23, ()), (24, ()), (25, ()), (26, ()), (27, ()), (28, ()), (29, ()), (30, ()), (31, ()), (32, ()), (33, ()), (34, ()), (35, ()), (36, ()), (37, ()), (38, ()), (39, ()), (40, ()), (41, ()), (42, ()), (43, ()), (44, ()), (45, ()), (46, ()), (47, ()), (48, ()), (49, ()), (50, ()), (51, ()), (52, ()), (53, ()), (54, ()), (55, ()), (56, ()), (57, ()), (58, ()), (59, ()), (60, ()), (61, ()), (62, ()), (63, ()), (64, ()), (65, ()), (66, ()), (67, ()), (68, ()), (69, ()), (70, ()), (71, ()), (72, ()), (73, ()), (74, ()), (75, ()), (76, ()), (77, ()), (78, ()), (79, ()), (80, ()), (81, ()), (82, ()), (83, ()), (84, ()), (85, ()), (86, ()), (87, ()), (88, ()), (89, ()), (90, ()), (91, ()), (92, ()), (93, ()), (94, ()), (95, ()), (96, ()), (97, ()), (98, ()), (99, ()), (100, ()), (101, ()), (102, ()), (103, ()), (104, ()), (105, ()), (106, ()), (107, ()), (108, ()), (109, ()), (110, ()), (111, ()), (112, ()), (113, ()), (114, ()), (115, ()), (116, ()), (117, ()), (118, ()), (119, ()), (120, ()), (121, ()), (122, ()), (123, ()), (124, ()), (125, ()), (126, ()), (127, ()), (128, ()), (129, ()), (130, ()), (131, ()), (132, ())]
theorem tbok : TbOK Tryz.prog tbl := TbOK.of tok ⟨si22, si25, si26, si29, si30, si33, si35, si36, si37, si38, si41, si42, si47, si51, si71, si88, si100, si104, si108, si109, trivial⟩
  ⟨at22, at25, at26, at29, at30, at33, at35, at37, at38, at41, at42, at47, at51, at71, at88, at100, at108, at109, trivial⟩
  ⟨bi40, bi44, bi49, bi53, bi57, bi68, bi84, bi91, bi93, bi98, bi102, bi106, bi111, bi117, bi127, bi156, bi166, bi186, trivial⟩
  ⟨fg68_0, trivial⟩
  trivial
  ⟨Tryz.underlying9, trivial⟩
  ⟨Tryz.underlying4, trivial⟩
  ⟨⟨Tryz.underlying60, ti9.size⟩, ⟨Tryz.underlying187, ti9.size⟩, trivial⟩
  ⟨ci4, ci5, ci6, ci7, ci8, ci9, ci10, ci11, ci12, ci13, ci14, ci15, ci16, ci17, ci18, ci19, ci20, ci21, ci22, ci23, ci24, ci25, ci26, ci27, ci28, ci29, ci30, ci31, ci32, ci33, ci34, ci35, ci36, ci37, ci38, ci39, ci40, ci41, ci42, ci43, ci44, ci45, ci46, ci47, ci48, ci49, ci50, ci51, ci52, ci53, ci54, ci55, ci56, ci57, ci58, ci59, ci60, ci61, ci62, ci63, ci64, ci65, ci66, ci67, ci68, ci69, ci70, ci71, ci72, ci73, ci74, ci75, ci76, ci77, ci78, ci79, ci80, ci81, ci82, ci83, ci84, ci85, ci86, ci87, ci88, ci89, ci90, ci91, ci92, ci93, ci94, ci95, ci96, ci97, ci98, ci99, ci100, ci101, ci102, ci103, ci104, ci105, ci106, ci107, ci108, ci109, ci110, ci111, ci112, ci113, ci114, ci115, ci116, ci117, ci118, ci119, ci120, ci121, ci122, ci123, ci124, ci125, ci126, ci127, ci128, ci129, ci130, ci131, ci132, trivial⟩
theorem sys : Prg Tryz.prog tbl := ⟨tbok, by kernel_rfl⟩
end Go.Proofs.YtiojahpkaogigaaGreatDoor
