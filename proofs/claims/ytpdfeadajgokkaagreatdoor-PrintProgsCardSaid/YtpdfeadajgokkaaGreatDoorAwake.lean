/- The head of all statements of layer 5. -/
import Derived.Test.YtpdfeadajgokkaaGreatDoorRows5
namespace Go.Proofs.YtpdfeadajgokkaaGreatDoor
open Go.RowKit

def exX : Ex := .mk 2 ⟨#[120]⟩ 0 [] []
def exF : Ex := .mk 2 ⟨#[102]⟩ 0 [] []
def exE : Ex := .mk 4 ⟨#[]⟩ 0 [⟨#[120]⟩] [.mk 5 ⟨#[]⟩ 0 [] [exF, .mk 5 ⟨#[]⟩ 0 [] [exF, exX]]]
def sgA : Sg := .mk ⟨#[97]⟩ []
def pgP : Pg := ⟨[⟨⟨#[84]⟩, [⟨#[97]⟩], [.mk ⟨#[65]⟩ [.mk ⟨#[84]⟩ [sgA]], .mk ⟨#[66]⟩ []]⟩], [⟨⟨#[102]⟩, exX⟩]⟩
def pgQ : Pg := ⟨[], [⟨⟨#[]⟩, ex0⟩]⟩
def sgF : Sg := .mk ⟨#[45, 62]⟩ [sgA, .mk ⟨#[98]⟩ []]

theorem chk_E : chkB exE = true := by
  simp [chkB, exE, exF, exX, cnt, cnt.cntL, dep, dep.depL, Ex.kind, sndR, allP, allP.allPL, sndQ, namedB, nameB, fitB, wordB, namesB, belowB, mayAt, namesK, kidsK, Lib.toList_data, List.zipIdx]
  decide
theorem chk_0 : chkB ex0 = false := by
  simp [chkB, ex0, cnt, cnt.cntL, dep, dep.depL, Ex.kind, sndR, allP, allP.allPL, sndQ]
theorem text_E : textE exE = [92, 120, 32, 45, 62, 32, 102, 32, 40, 102, 32, 120, 41] := by
  simp [exE, exF, exX, tx_lam, tx_app, atomE, atomT, paren, tx_var, Ex.kind, bs]
theorem prog_P : progB pgP = true := by
  simp [progB, pgP, datB, defB, formB, sigB, sigB.sigL, headB, sgA, Sg.name, Sg.args, conB, nameB, fitB, wordB, namesB, chkB, exX, cnt, cnt.cntL, dep, dep.depL, Ex.kind, sndR, allP, allP.allPL, sndQ, namedB, belowB, mayAt, namesK, kidsK, Lib.toList_data, List.zipIdx]
  decide
theorem prog_Q : progB pgQ = false := by
  simp [progB, pgQ, defB, ex0, nameB, fitB, Lib.toList_data]
theorem text_P : progT pgP = [123, 32, 100, 97, 116, 97, 32, 84, 32, 97, 32, 61, 32, 65, 32, 40, 84, 32, 97, 41, 32, 124, 32, 66, 32, 59, 32, 102, 32, 61, 32, 120, 32, 125] := by
  simp [progT, progL, progW, pgP, dataT, dataW, formsW, formW, sgAtom, sgText, sgBody, sgText.sgAtoms, sgA, Sg.name, Sg.args, defT, defW, exX, tx_var, joinSp, Lib.join_cons, Lib.joinTail, bs, mkS, paren]
theorem small_F : smallB sgF 30 = true := by simp [smallB, smallB.smallL, sgF, sgA]
theorem text_F : sgText sgF = [97, 32, 45, 62, 32, 98] := by
  simp [sgF, sgA, sgText, sgBody, sgText.sgAtoms, Sg.name, Sg.args, Lib.join_cons, Lib.joinTail, bs]

theorem keeps_alloc (w : World) (o : Obj) : Keeps w (w.alloc o) := Keeps.of_below ((Below.refl _ w).alloc (Nat.le_refl _) o)
theorem app_mem {w : World} {a : Option Addr} {x y : Ex} (h : ExRow w a [x, y]) : IsEx w (.agg #[.int .i64 5, .string ⟨#[]⟩, .int .i64 0, .slice none 0 0, .slice a 2 2]) (.mk 5 ⟨#[]⟩ 0 [] [x, y]) :=
  IsEx.shut (l := []) (ks := [x, y]) (by omega) (by omega) (by first | decide | simp [lenMax]) (by simp) (by first | decide | simp [lenMax]) (.inl rfl) h ⟨fun _ => rfl, by simp⟩
theorem lam_mem {w : World} {b : Nat} {a : Option Addr} {s : Str} {x : Ex} (hs : StrRow w (some ⟨b, 0, none⟩) [s]) (h : ExRow w a [x]) : IsEx w (.agg #[.int .i64 4, .string ⟨#[]⟩, .int .i64 0, .slice (some ⟨b, 0, none⟩) 1 1, .slice a 1 1]) (.mk 4 ⟨#[]⟩ 0 [s] [x]) :=
  IsEx.shut (l := [s]) (ks := [x]) (by omega) (by omega) (by first | decide | simp [lenMax]) (by first | decide | simp [lenMax]) (by first | decide | simp [lenMax]) hs h ⟨fun h => by simp at h, by simp⟩
theorem sg_mem {w : World} {s : Str} {a : Option Addr} {l : List Sg} (hs : s.size ≤ lenMax) (hl : l.length ≤ lenMax) (h : SgRow w a l) (n c : Nat) (hn : l.length = n) : IsSg w (.agg #[.string s, .slice a n c]) (.mk s l) := by
  subst hn; exact IsSg.shut hs hl h
theorem exE_mem (w : World) : IsEx (((((((w.alloc (.cells #[.int .i64 2, .string ⟨#[120]⟩, .int .i64 0, .slice none 0 0, .slice none 0 0] 40)).alloc (.cells #[.int .i64 2, .string ⟨#[102]⟩, .int .i64 0, .slice none 0 0, .slice none 0 0] 40)).alloc (.cells #[.string ⟨#[120]⟩] 9)).alloc (.cells #[.int .i64 2, .string ⟨#[102]⟩, .int .i64 0, .slice none 0 0, .slice none 0 0, .int .i64 2, .string ⟨#[120]⟩, .int .i64 0, .slice none 0 0, .slice none 0 0] 40)).alloc (.cells #[.int .i64 2, .string ⟨#[102]⟩, .int .i64 0, .slice none 0 0, .slice none 0 0, .int .i64 5, .string ⟨#[]⟩, .int .i64 0, .slice none 0 0, .slice (some ⟨w.heap.size + 1 + 1 + 1, 0, none⟩) 2 2] 40)).alloc (.cells #[.int .i64 5, .string ⟨#[]⟩, .int .i64 0, .slice none 0 0, .slice (some ⟨w.heap.size + 1 + 1 + 1 + 1, 0, none⟩) 2 2] 40)).alloc (.cells #[.int .i64 4, .string ⟨#[]⟩, .int .i64 0, .slice (some ⟨w.heap.size + 1 + 1, 0, none⟩) 1 1, .slice (some ⟨w.heap.size + 1 + 1 + 1 + 1 + 1, 0, none⟩) 1 1] 40)) (.agg #[.int .i64 4, .string ⟨#[]⟩, .int .i64 0, .slice (some ⟨w.heap.size + 1 + 1, 0, none⟩) 1 1, .slice (some ⟨w.heap.size + 1 + 1 + 1 + 1 + 1, 0, none⟩) 1 1]) exE ∧ Below w.heap.size w (((((((w.alloc (.cells #[.int .i64 2, .string ⟨#[120]⟩, .int .i64 0, .slice none 0 0, .slice none 0 0] 40)).alloc (.cells #[.int .i64 2, .string ⟨#[102]⟩, .int .i64 0, .slice none 0 0, .slice none 0 0] 40)).alloc (.cells #[.string ⟨#[120]⟩] 9)).alloc (.cells #[.int .i64 2, .string ⟨#[102]⟩, .int .i64 0, .slice none 0 0, .slice none 0 0, .int .i64 2, .string ⟨#[120]⟩, .int .i64 0, .slice none 0 0, .slice none 0 0] 40)).alloc (.cells #[.int .i64 2, .string ⟨#[102]⟩, .int .i64 0, .slice none 0 0, .slice none 0 0, .int .i64 5, .string ⟨#[]⟩, .int .i64 0, .slice none 0 0, .slice (some ⟨w.heap.size + 1 + 1 + 1, 0, none⟩) 2 2] 40)).alloc (.cells #[.int .i64 5, .string ⟨#[]⟩, .int .i64 0, .slice none 0 0, .slice (some ⟨w.heap.size + 1 + 1 + 1 + 1, 0, none⟩) 2 2] 40)).alloc (.cells #[.int .i64 4, .string ⟨#[]⟩, .int .i64 0, .slice (some ⟨w.heap.size + 1 + 1, 0, none⟩) 1 1, .slice (some ⟨w.heap.size + 1 + 1 + 1 + 1 + 1, 0, none⟩) 1 1] 40)) := by
  have r2 : StrRow (((w.alloc (.cells #[.int .i64 2, .string ⟨#[120]⟩, .int .i64 0, .slice none 0 0, .slice none 0 0] 40)).alloc (.cells #[.int .i64 2, .string ⟨#[102]⟩, .int .i64 0, .slice none 0 0, .slice none 0 0] 40)).alloc (.cells #[.string ⟨#[120]⟩] 9)) (some ⟨w.heap.size + 1 + 1, 0, none⟩) [⟨#[120]⟩] := strRow1 (by simp) (by first | decide | simp [lenMax])
  have r3 : ExRow ((((w.alloc (.cells #[.int .i64 2, .string ⟨#[120]⟩, .int .i64 0, .slice none 0 0, .slice none 0 0] 40)).alloc (.cells #[.int .i64 2, .string ⟨#[102]⟩, .int .i64 0, .slice none 0 0, .slice none 0 0] 40)).alloc (.cells #[.string ⟨#[120]⟩] 9)).alloc (.cells #[.int .i64 2, .string ⟨#[102]⟩, .int .i64 0, .slice none 0 0, .slice none 0 0, .int .i64 2, .string ⟨#[120]⟩, .int .i64 0, .slice none 0 0, .slice none 0 0] 40)) (some ⟨w.heap.size + 1 + 1 + 1, 0, none⟩) [exF, exX] := exRow2 (by simp) (isEx_leaf (by omega) (by first | decide | simp [lenMax])) (isEx_leaf (by omega) (by first | decide | simp [lenMax]))
  have r4 : ExRow (((((w.alloc (.cells #[.int .i64 2, .string ⟨#[120]⟩, .int .i64 0, .slice none 0 0, .slice none 0 0] 40)).alloc (.cells #[.int .i64 2, .string ⟨#[102]⟩, .int .i64 0, .slice none 0 0, .slice none 0 0] 40)).alloc (.cells #[.string ⟨#[120]⟩] 9)).alloc (.cells #[.int .i64 2, .string ⟨#[102]⟩, .int .i64 0, .slice none 0 0, .slice none 0 0, .int .i64 2, .string ⟨#[120]⟩, .int .i64 0, .slice none 0 0, .slice none 0 0] 40)).alloc (.cells #[.int .i64 2, .string ⟨#[102]⟩, .int .i64 0, .slice none 0 0, .slice none 0 0, .int .i64 5, .string ⟨#[]⟩, .int .i64 0, .slice none 0 0, .slice (some ⟨w.heap.size + 1 + 1 + 1, 0, none⟩) 2 2] 40)) (some ⟨w.heap.size + 1 + 1 + 1 + 1, 0, none⟩) [exF, .mk 5 ⟨#[]⟩ 0 [] [exF, exX]] := exRow2 (by simp) (isEx_leaf (by omega) (by first | decide | simp [lenMax])) (app_mem (r3.keeps (keeps_alloc _ _)))
  have r5 : ExRow ((((((w.alloc (.cells #[.int .i64 2, .string ⟨#[120]⟩, .int .i64 0, .slice none 0 0, .slice none 0 0] 40)).alloc (.cells #[.int .i64 2, .string ⟨#[102]⟩, .int .i64 0, .slice none 0 0, .slice none 0 0] 40)).alloc (.cells #[.string ⟨#[120]⟩] 9)).alloc (.cells #[.int .i64 2, .string ⟨#[102]⟩, .int .i64 0, .slice none 0 0, .slice none 0 0, .int .i64 2, .string ⟨#[120]⟩, .int .i64 0, .slice none 0 0, .slice none 0 0] 40)).alloc (.cells #[.int .i64 2, .string ⟨#[102]⟩, .int .i64 0, .slice none 0 0, .slice none 0 0, .int .i64 5, .string ⟨#[]⟩, .int .i64 0, .slice none 0 0, .slice (some ⟨w.heap.size + 1 + 1 + 1, 0, none⟩) 2 2] 40)).alloc (.cells #[.int .i64 5, .string ⟨#[]⟩, .int .i64 0, .slice none 0 0, .slice (some ⟨w.heap.size + 1 + 1 + 1 + 1, 0, none⟩) 2 2] 40)) (some ⟨w.heap.size + 1 + 1 + 1 + 1 + 1, 0, none⟩) [.mk 5 ⟨#[]⟩ 0 [] [exF, .mk 5 ⟨#[]⟩ 0 [] [exF, exX]]] := exRow1 (by simp) (app_mem (r4.keeps (keeps_alloc _ _)))
  refine ⟨lam_mem (((((r2.keeps (keeps_alloc _ _)).keeps (keeps_alloc _ _)).keeps (keeps_alloc _ _)).keeps (keeps_alloc _ _))) (r5.keeps (keeps_alloc _ _)), ?_⟩
  exact (((((((Below.refl _ _).alloc (by simp) _).alloc (by simp <;> omega) _).alloc (by simp <;> omega) _).alloc (by simp <;> omega) _).alloc (by simp <;> omega) _).alloc (by simp <;> omega) _).alloc (by simp <;> omega) _
theorem pgP_mem (w : World) : IsPg ((((((w.alloc (.cells #[.string ⟨#[97]⟩] 9)).alloc (.cells #[.string ⟨#[97]⟩, .slice none 0 0] 28)).alloc (.cells #[.string ⟨#[84]⟩, .slice (some ⟨w.heap.size + 1, 0, none⟩) 1 1] 28)).alloc (.cells #[.string ⟨#[65]⟩, .slice (some ⟨w.heap.size + 1 + 1, 0, none⟩) 1 1, .string ⟨#[66]⟩, .slice none 0 0] 46)).alloc (.cells #[.string ⟨#[84]⟩, .slice (some ⟨w.heap.size, 0, none⟩) 1 1, .slice (some ⟨w.heap.size + 1 + 1 + 1, 0, none⟩) 2 2] 49)).alloc (.cells #[.string ⟨#[102]⟩, .int .i64 2, .string ⟨#[120]⟩, .int .i64 0, .slice none 0 0, .slice none 0 0] 51)) (.agg #[.slice (some ⟨w.heap.size + 1 + 1 + 1 + 1, 0, none⟩) 1 1, .slice (some ⟨w.heap.size + 1 + 1 + 1 + 1 + 1, 0, none⟩) 1 1]) pgP ∧ Below w.heap.size w ((((((w.alloc (.cells #[.string ⟨#[97]⟩] 9)).alloc (.cells #[.string ⟨#[97]⟩, .slice none 0 0] 28)).alloc (.cells #[.string ⟨#[84]⟩, .slice (some ⟨w.heap.size + 1, 0, none⟩) 1 1] 28)).alloc (.cells #[.string ⟨#[65]⟩, .slice (some ⟨w.heap.size + 1 + 1, 0, none⟩) 1 1, .string ⟨#[66]⟩, .slice none 0 0] 46)).alloc (.cells #[.string ⟨#[84]⟩, .slice (some ⟨w.heap.size, 0, none⟩) 1 1, .slice (some ⟨w.heap.size + 1 + 1 + 1, 0, none⟩) 2 2] 49)).alloc (.cells #[.string ⟨#[102]⟩, .int .i64 2, .string ⟨#[120]⟩, .int .i64 0, .slice none 0 0, .slice none 0 0] 51)) := by
  have r1 : StrRow (w.alloc (.cells #[.string ⟨#[97]⟩] 9)) (some ⟨w.heap.size, 0, none⟩) [⟨#[97]⟩] := strRow1 (by simp) (by first | decide | simp [lenMax])
  have r2 : SgRow ((w.alloc (.cells #[.string ⟨#[97]⟩] 9)).alloc (.cells #[.string ⟨#[97]⟩, .slice none 0 0] 28)) (some ⟨w.heap.size + 1, 0, none⟩) [sgA] := sgRow1 (by simp) (sg_mem (by first | decide | simp [lenMax]) (by simp) (.inl rfl) 0 0 rfl)
  have r3 : SgRow (((w.alloc (.cells #[.string ⟨#[97]⟩] 9)).alloc (.cells #[.string ⟨#[97]⟩, .slice none 0 0] 28)).alloc (.cells #[.string ⟨#[84]⟩, .slice (some ⟨w.heap.size + 1, 0, none⟩) 1 1] 28)) (some ⟨w.heap.size + 1 + 1, 0, none⟩) [.mk ⟨#[84]⟩ [sgA]] := sgRow1 (by simp) (sg_mem (by first | decide | simp [lenMax]) (by first | decide | simp [lenMax]) (r2.keeps (keeps_alloc _ _)) 1 1 rfl)
  have r4 : SgRow ((((w.alloc (.cells #[.string ⟨#[97]⟩] 9)).alloc (.cells #[.string ⟨#[97]⟩, .slice none 0 0] 28)).alloc (.cells #[.string ⟨#[84]⟩, .slice (some ⟨w.heap.size + 1, 0, none⟩) 1 1] 28)).alloc (.cells #[.string ⟨#[65]⟩, .slice (some ⟨w.heap.size + 1 + 1, 0, none⟩) 1 1, .string ⟨#[66]⟩, .slice none 0 0] 46)) (some ⟨w.heap.size + 1 + 1 + 1, 0, none⟩) [.mk ⟨#[65]⟩ [.mk ⟨#[84]⟩ [sgA]], .mk ⟨#[66]⟩ []] := sgRow2 (by simp) (sg_mem (by first | decide | simp [lenMax]) (by first | decide | simp [lenMax]) (r3.keeps (keeps_alloc _ _)) 1 1 rfl) (sg_mem (by first | decide | simp [lenMax]) (by simp) (.inl rfl) 0 0 rfl)
  have r5 : DtRow (((((w.alloc (.cells #[.string ⟨#[97]⟩] 9)).alloc (.cells #[.string ⟨#[97]⟩, .slice none 0 0] 28)).alloc (.cells #[.string ⟨#[84]⟩, .slice (some ⟨w.heap.size + 1, 0, none⟩) 1 1] 28)).alloc (.cells #[.string ⟨#[65]⟩, .slice (some ⟨w.heap.size + 1 + 1, 0, none⟩) 1 1, .string ⟨#[66]⟩, .slice none 0 0] 46)).alloc (.cells #[.string ⟨#[84]⟩, .slice (some ⟨w.heap.size, 0, none⟩) 1 1, .slice (some ⟨w.heap.size + 1 + 1 + 1, 0, none⟩) 2 2] 49)) (some ⟨w.heap.size + 1 + 1 + 1 + 1, 0, none⟩) [⟨⟨#[84]⟩, [⟨#[97]⟩], [.mk ⟨#[65]⟩ [.mk ⟨#[84]⟩ [sgA]], .mk ⟨#[66]⟩ []]⟩] := dtRow1 (by simp) ⟨_, _, _, _, rfl, fun h => by simp at h, by first | decide | simp [lenMax], by first | decide | simp [lenMax], by first | decide | simp [lenMax], (((r1.keeps (keeps_alloc _ _)).keeps (keeps_alloc _ _)).keeps (keeps_alloc _ _)).keeps (keeps_alloc _ _), r4.keeps (keeps_alloc _ _)⟩
  have r6 : DfRow ((((((w.alloc (.cells #[.string ⟨#[97]⟩] 9)).alloc (.cells #[.string ⟨#[97]⟩, .slice none 0 0] 28)).alloc (.cells #[.string ⟨#[84]⟩, .slice (some ⟨w.heap.size + 1, 0, none⟩) 1 1] 28)).alloc (.cells #[.string ⟨#[65]⟩, .slice (some ⟨w.heap.size + 1 + 1, 0, none⟩) 1 1, .string ⟨#[66]⟩, .slice none 0 0] 46)).alloc (.cells #[.string ⟨#[84]⟩, .slice (some ⟨w.heap.size, 0, none⟩) 1 1, .slice (some ⟨w.heap.size + 1 + 1 + 1, 0, none⟩) 2 2] 49)).alloc (.cells #[.string ⟨#[102]⟩, .int .i64 2, .string ⟨#[120]⟩, .int .i64 0, .slice none 0 0, .slice none 0 0] 51)) (some ⟨w.heap.size + 1 + 1 + 1 + 1 + 1, 0, none⟩) [⟨⟨#[102]⟩, exX⟩] := dfRow1 (by simp) ⟨_, _, _, _, _, rfl, by first | decide | simp [lenMax], isEx_leaf (by omega) (by first | decide | simp [lenMax])⟩
  refine ⟨⟨_, _, _, _, rfl, by first | decide | simp [pgP, lenMax], by first | decide | simp [pgP, lenMax], r5.keeps (keeps_alloc _ _), r6⟩, ?_⟩
  exact ((((((Below.refl _ _).alloc (by simp) _).alloc (by simp <;> omega) _).alloc (by simp <;> omega) _).alloc (by simp <;> omega) _).alloc (by simp <;> omega) _).alloc (by simp <;> omega) _
theorem pgQ_mem (w : World) : IsPg (w.alloc (.cells #[.string ⟨#[]⟩, .int .i64 0, .string ⟨#[]⟩, .int .i64 0, .slice none 0 0, .slice none 0 0] 51)) (.agg #[.slice none 0 0, .slice (some ⟨w.heap.size, 0, none⟩) 1 1]) pgQ ∧ Below w.heap.size w (w.alloc (.cells #[.string ⟨#[]⟩, .int .i64 0, .string ⟨#[]⟩, .int .i64 0, .slice none 0 0, .slice none 0 0] 51)) := by
  refine ⟨⟨none, 0, _, _, rfl, by simp [pgQ], by first | decide | simp [pgQ, lenMax], .inl rfl, dfRow1 rfl ⟨_, _, _, _, _, rfl, by decide, isEx_leaf (by omega) (by decide)⟩⟩, (Below.refl _ _).alloc (Nat.le_refl _) _⟩
theorem sgF_mem (w : World) : IsSg (w.alloc (.cells #[.string ⟨#[97]⟩, .slice none 0 0, .string ⟨#[98]⟩, .slice none 0 0] 28)) (.agg #[.string ⟨#[45, 62]⟩, .slice (some ⟨w.heap.size, 0, none⟩) 2 2]) sgF ∧ Below w.heap.size w (w.alloc (.cells #[.string ⟨#[97]⟩, .slice none 0 0, .string ⟨#[98]⟩, .slice none 0 0] 28)) := by
  refine ⟨sg_mem (by first | decide | simp [lenMax]) (by first | decide | simp [lenMax]) (sgRow2 rfl (sg_mem (by first | decide | simp [lenMax]) (by simp) (.inl rfl) 0 0 rfl) (sg_mem (by first | decide | simp [lenMax]) (by simp) (.inl rfl) 0 0 rfl)) 2 2 rfl, (Below.refl _ _).alloc (Nat.le_refl _) _⟩

theorem xpr_E : xprS exE = ⟨#[92, 120, 32, 45, 62, 32, 102, 32, 40, 102, 32, 120, 41]⟩ ∧ xprN exE = 0 := by
  rw [xprS, xprN, if_pos chk_E, if_pos chk_E, text_E]; exact ⟨rfl, rfl⟩
theorem xpr_0 : xprS ex0 = ⟨#[]⟩ ∧ xprN ex0 = 40 := by
  rw [xprS, xprN, chk_0]; exact ⟨rfl, rfl⟩
theorem prg_P : prgS pgP = ⟨#[123, 32, 100, 97, 116, 97, 32, 84, 32, 97, 32, 61, 32, 65, 32, 40, 84, 32, 97, 41, 32, 124, 32, 66, 32, 59, 32, 102, 32, 61, 32, 120, 32, 125]⟩ ∧ prgN pgP = 0 := by
  rw [prgS, prgN, if_pos prog_P, if_pos prog_P, text_P]; exact ⟨rfl, rfl⟩
theorem prg_Q : prgS pgQ = ⟨#[]⟩ ∧ prgN pgQ = 40 := by
  rw [prgS, prgN, prog_Q]; exact ⟨rfl, rfl⟩

set_option maxHeartbeats 4000000 in
set_option maxRecDepth 100000 in
theorem awake_c (w : World) (ht : Tab w) : Calls Tryz.prog 5 #[] w fun r w' => r = .returned (.bool true) ∧ Below w.heap.size w w' := by
  have hM := Lib.hid (exE_mem w)
  have h1 : Hid (Calls Tryz.prog 13 #[.agg #[.int .i64 4, .string ⟨#[]⟩, .int .i64 0, .slice (some ⟨w.heap.size + 1 + 1, 0, none⟩) 1 1, .slice (some ⟨w.heap.size + 1 + 1 + 1 + 1 + 1, 0, none⟩) 1 1]] (((((((w.alloc (.cells #[.int .i64 2, .string ⟨#[120]⟩, .int .i64 0, .slice none 0 0, .slice none 0 0] 40)).alloc (.cells #[.int .i64 2, .string ⟨#[102]⟩, .int .i64 0, .slice none 0 0, .slice none 0 0] 40)).alloc (.cells #[.string ⟨#[120]⟩] 9)).alloc (.cells #[.int .i64 2, .string ⟨#[102]⟩, .int .i64 0, .slice none 0 0, .slice none 0 0, .int .i64 2, .string ⟨#[120]⟩, .int .i64 0, .slice none 0 0, .slice none 0 0] 40)).alloc (.cells #[.int .i64 2, .string ⟨#[102]⟩, .int .i64 0, .slice none 0 0, .slice none 0 0, .int .i64 5, .string ⟨#[]⟩, .int .i64 0, .slice none 0 0, .slice (some ⟨w.heap.size + 1 + 1 + 1, 0, none⟩) 2 2] 40)).alloc (.cells #[.int .i64 5, .string ⟨#[]⟩, .int .i64 0, .slice none 0 0, .slice (some ⟨w.heap.size + 1 + 1 + 1 + 1, 0, none⟩) 2 2] 40)).alloc (.cells #[.int .i64 4, .string ⟨#[]⟩, .int .i64 0, .slice (some ⟨w.heap.size + 1 + 1, 0, none⟩) 1 1, .slice (some ⟨w.heap.size + 1 + 1 + 1 + 1 + 1, 0, none⟩) 1 1] 40)) fun r w' => r = .returned (.tuple #[.string ⟨#[92, 120, 32, 45, 62, 32, 102, 32, 40, 102, 32, 120, 41]⟩, .int .i64 0]) ∧ Below (((((((w.alloc (.cells #[.int .i64 2, .string ⟨#[120]⟩, .int .i64 0, .slice none 0 0, .slice none 0 0] 40)).alloc (.cells #[.int .i64 2, .string ⟨#[102]⟩, .int .i64 0, .slice none 0 0, .slice none 0 0] 40)).alloc (.cells #[.string ⟨#[120]⟩] 9)).alloc (.cells #[.int .i64 2, .string ⟨#[102]⟩, .int .i64 0, .slice none 0 0, .slice none 0 0, .int .i64 2, .string ⟨#[120]⟩, .int .i64 0, .slice none 0 0, .slice none 0 0] 40)).alloc (.cells #[.int .i64 2, .string ⟨#[102]⟩, .int .i64 0, .slice none 0 0, .slice none 0 0, .int .i64 5, .string ⟨#[]⟩, .int .i64 0, .slice none 0 0, .slice (some ⟨w.heap.size + 1 + 1 + 1, 0, none⟩) 2 2] 40)).alloc (.cells #[.int .i64 5, .string ⟨#[]⟩, .int .i64 0, .slice none 0 0, .slice (some ⟨w.heap.size + 1 + 1 + 1 + 1, 0, none⟩) 2 2] 40)).alloc (.cells #[.int .i64 4, .string ⟨#[]⟩, .int .i64 0, .slice (some ⟨w.heap.size + 1 + 1, 0, none⟩) 1 1, .slice (some ⟨w.heap.size + 1 + 1 + 1 + 1 + 1, 0, none⟩) 1 1] 40)).heap.size (((((((w.alloc (.cells #[.int .i64 2, .string ⟨#[120]⟩, .int .i64 0, .slice none 0 0, .slice none 0 0] 40)).alloc (.cells #[.int .i64 2, .string ⟨#[102]⟩, .int .i64 0, .slice none 0 0, .slice none 0 0] 40)).alloc (.cells #[.string ⟨#[120]⟩] 9)).alloc (.cells #[.int .i64 2, .string ⟨#[102]⟩, .int .i64 0, .slice none 0 0, .slice none 0 0, .int .i64 2, .string ⟨#[120]⟩, .int .i64 0, .slice none 0 0, .slice none 0 0] 40)).alloc (.cells #[.int .i64 2, .string ⟨#[102]⟩, .int .i64 0, .slice none 0 0, .slice none 0 0, .int .i64 5, .string ⟨#[]⟩, .int .i64 0, .slice none 0 0, .slice (some ⟨w.heap.size + 1 + 1 + 1, 0, none⟩) 2 2] 40)).alloc (.cells #[.int .i64 5, .string ⟨#[]⟩, .int .i64 0, .slice none 0 0, .slice (some ⟨w.heap.size + 1 + 1 + 1 + 1, 0, none⟩) 2 2] 40)).alloc (.cells #[.int .i64 4, .string ⟨#[]⟩, .int .i64 0, .slice (some ⟨w.heap.size + 1 + 1, 0, none⟩) 1 1, .slice (some ⟨w.heap.size + 1 + 1 + 1 + 1 + 1, 0, none⟩) 1 1] 40)) w') := by
    have := print_Expr exE _ _ ⟨hM.out.1, ht.below hM.out.2⟩ (fun _ => by rw [text_E]; simp)
    rwa [xpr_E.1, xpr_E.2] at this
  have hsz : w.heap.size + 7 = (((((((w.alloc (.cells #[.int .i64 2, .string ⟨#[120]⟩, .int .i64 0, .slice none 0 0, .slice none 0 0] 40)).alloc (.cells #[.int .i64 2, .string ⟨#[102]⟩, .int .i64 0, .slice none 0 0, .slice none 0 0] 40)).alloc (.cells #[.string ⟨#[120]⟩] 9)).alloc (.cells #[.int .i64 2, .string ⟨#[102]⟩, .int .i64 0, .slice none 0 0, .slice none 0 0, .int .i64 2, .string ⟨#[120]⟩, .int .i64 0, .slice none 0 0, .slice none 0 0] 40)).alloc (.cells #[.int .i64 2, .string ⟨#[102]⟩, .int .i64 0, .slice none 0 0, .slice none 0 0, .int .i64 5, .string ⟨#[]⟩, .int .i64 0, .slice none 0 0, .slice (some ⟨w.heap.size + 1 + 1 + 1, 0, none⟩) 2 2] 40)).alloc (.cells #[.int .i64 5, .string ⟨#[]⟩, .int .i64 0, .slice none 0 0, .slice (some ⟨w.heap.size + 1 + 1 + 1 + 1, 0, none⟩) 2 2] 40)).alloc (.cells #[.int .i64 4, .string ⟨#[]⟩, .int .i64 0, .slice (some ⟨w.heap.size + 1 + 1, 0, none⟩) 1 1, .slice (some ⟨w.heap.size + 1 + 1 + 1 + 1 + 1, 0, none⟩) 1 1] 40)).heap.size := by simp
  have hX : Hid (∀ V, Below (((((((w.alloc (.cells #[.int .i64 2, .string ⟨#[120]⟩, .int .i64 0, .slice none 0 0, .slice none 0 0] 40)).alloc (.cells #[.int .i64 2, .string ⟨#[102]⟩, .int .i64 0, .slice none 0 0, .slice none 0 0] 40)).alloc (.cells #[.string ⟨#[120]⟩] 9)).alloc (.cells #[.int .i64 2, .string ⟨#[102]⟩, .int .i64 0, .slice none 0 0, .slice none 0 0, .int .i64 2, .string ⟨#[120]⟩, .int .i64 0, .slice none 0 0, .slice none 0 0] 40)).alloc (.cells #[.int .i64 2, .string ⟨#[102]⟩, .int .i64 0, .slice none 0 0, .slice none 0 0, .int .i64 5, .string ⟨#[]⟩, .int .i64 0, .slice none 0 0, .slice (some ⟨w.heap.size + 1 + 1 + 1, 0, none⟩) 2 2] 40)).alloc (.cells #[.int .i64 5, .string ⟨#[]⟩, .int .i64 0, .slice none 0 0, .slice (some ⟨w.heap.size + 1 + 1 + 1 + 1, 0, none⟩) 2 2] 40)).alloc (.cells #[.int .i64 4, .string ⟨#[]⟩, .int .i64 0, .slice (some ⟨w.heap.size + 1 + 1, 0, none⟩) 1 1, .slice (some ⟨w.heap.size + 1 + 1 + 1 + 1 + 1, 0, none⟩) 1 1] 40)).heap.size (((((((w.alloc (.cells #[.int .i64 2, .string ⟨#[120]⟩, .int .i64 0, .slice none 0 0, .slice none 0 0] 40)).alloc (.cells #[.int .i64 2, .string ⟨#[102]⟩, .int .i64 0, .slice none 0 0, .slice none 0 0] 40)).alloc (.cells #[.string ⟨#[120]⟩] 9)).alloc (.cells #[.int .i64 2, .string ⟨#[102]⟩, .int .i64 0, .slice none 0 0, .slice none 0 0, .int .i64 2, .string ⟨#[120]⟩, .int .i64 0, .slice none 0 0, .slice none 0 0] 40)).alloc (.cells #[.int .i64 2, .string ⟨#[102]⟩, .int .i64 0, .slice none 0 0, .slice none 0 0, .int .i64 5, .string ⟨#[]⟩, .int .i64 0, .slice none 0 0, .slice (some ⟨w.heap.size + 1 + 1 + 1, 0, none⟩) 2 2] 40)).alloc (.cells #[.int .i64 5, .string ⟨#[]⟩, .int .i64 0, .slice none 0 0, .slice (some ⟨w.heap.size + 1 + 1 + 1 + 1, 0, none⟩) 2 2] 40)).alloc (.cells #[.int .i64 4, .string ⟨#[]⟩, .int .i64 0, .slice (some ⟨w.heap.size + 1 + 1, 0, none⟩) 1 1, .slice (some ⟨w.heap.size + 1 + 1 + 1 + 1 + 1, 0, none⟩) 1 1] 40)) V → (V.cell? ⟨w.heap.size, 0, none⟩ = some (.int .i64 2) ∧ V.cell? ⟨w.heap.size, 1, none⟩ = some (.string ⟨#[120]⟩) ∧ V.cell? ⟨w.heap.size, 2, none⟩ = some (.int .i64 0) ∧ V.cell? ⟨w.heap.size, 3, none⟩ = some (.slice none 0 0) ∧ V.cell? ⟨w.heap.size, 4, none⟩ = some (.slice none 0 0)) ∧
      (V.cell? ⟨w.heap.size + 1 + 1 + 1 + 1 + 1 + 1, 0, none⟩ = some (.int .i64 4) ∧ V.cell? ⟨w.heap.size + 1 + 1 + 1 + 1 + 1 + 1, 1, none⟩ = some (.string ⟨#[]⟩) ∧ V.cell? ⟨w.heap.size + 1 + 1 + 1 + 1 + 1 + 1, 2, none⟩ = some (.int .i64 0) ∧ V.cell? ⟨w.heap.size + 1 + 1 + 1 + 1 + 1 + 1, 3, none⟩ = some (.slice (some ⟨w.heap.size + 1 + 1, 0, none⟩) 1 1) ∧ V.cell? ⟨w.heap.size + 1 + 1 + 1 + 1 + 1 + 1, 4, none⟩ = some (.slice (some ⟨w.heap.size + 1 + 1 + 1 + 1 + 1, 0, none⟩) 1 1))) := by
    intro V hb
    have a := box5 (w := w) (v0 := .int .i64 2) (v1 := .string ⟨#[120]⟩) (v2 := .int .i64 0) (v3 := .slice none 0 0) (v4 := .slice none 0 0) (t := 40) (wr := V) ((((((((Below.refl _ _).alloc (by simp) _).alloc (by simp) _).alloc (by simp <;> omega) _).alloc (by simp <;> omega) _).alloc (by simp <;> omega) _).alloc (by simp <;> omega) _).trans (hb.mono (by simp <;> omega)))
    have hb' := hb
    rw [← hsz] at hb'
    have b := box5 (w := ((((((w.alloc (.cells #[.int .i64 2, .string ⟨#[120]⟩, .int .i64 0, .slice none 0 0, .slice none 0 0] 40)).alloc (.cells #[.int .i64 2, .string ⟨#[102]⟩, .int .i64 0, .slice none 0 0, .slice none 0 0] 40)).alloc (.cells #[.string ⟨#[120]⟩] 9)).alloc (.cells #[.int .i64 2, .string ⟨#[102]⟩, .int .i64 0, .slice none 0 0, .slice none 0 0, .int .i64 2, .string ⟨#[120]⟩, .int .i64 0, .slice none 0 0, .slice none 0 0] 40)).alloc (.cells #[.int .i64 2, .string ⟨#[102]⟩, .int .i64 0, .slice none 0 0, .slice none 0 0, .int .i64 5, .string ⟨#[]⟩, .int .i64 0, .slice none 0 0, .slice (some ⟨w.heap.size + 1 + 1 + 1, 0, none⟩) 2 2] 40)).alloc (.cells #[.int .i64 5, .string ⟨#[]⟩, .int .i64 0, .slice none 0 0, .slice (some ⟨w.heap.size + 1 + 1 + 1 + 1, 0, none⟩) 2 2] 40))) (wr := V) (by simpa using hb)
    refine ⟨a, ?_⟩
    simpa using b
  have hM2 := Lib.hid hM.out.1
  have hB0 := Lib.hid hM.out.2
  have ht' := Lib.hid ht
  clear hsz ht
  go_enter Tryz.func5, Tryz.ntmps5
  go_wp2_with fail
  refine h1.out.mono ?_
  rintro e w1 ⟨rfl, hB1⟩
  have hX1 := Lib.hid (hX.out w1 hB1)
  have hE1 := Lib.hid (IsEx.keeps (Keeps.of_below hB1) _ _ hM2.out)
  have hb1 := Lib.hid (hB0.out.trans (hB1.mono hB0.out.size))
  clear hB1 h1 hX hM hM2 hB0
  go_wp2_with fail
  refine (print_Expr ex0 _ _ ⟨isEx_leaf (by omega) (by decide), ht'.out.below hb1.out⟩ (fun h => by rw [chk_0] at h; simp at h)).mono ?_
  rw [xpr_0.1, xpr_0.2]
  rintro e w2 ⟨rfl, hB2⟩
  have hK2 := Lib.hid (Keeps.of_below hB2)
  have hE2 := Lib.hid (IsEx.keeps hK2.out _ _ hE1.out)
  have hb2 := Lib.hid (hb1.out.trans (hB2.mono hb1.out.size))
  have hY2 := Lib.hid (fun V (hb : Below w2.heap.size w2 V) => (⟨Keeps.of_below hb _ _ (hK2.out _ _ hX1.out.2.1), Keeps.of_below hb _ _ (hK2.out _ _ hX1.out.2.2.1), Keeps.of_below hb _ _ (hK2.out _ _ hX1.out.2.2.2.1), Keeps.of_below hb _ _ (hK2.out _ _ hX1.out.2.2.2.2.1), Keeps.of_below hb _ _ (hK2.out _ _ hX1.out.2.2.2.2.2)⟩ : _ ∧ _ ∧ _ ∧ _ ∧ _))
  have x0 := Keeps.of_below hB2 _ _ hX1.out.1.1
  have x1 := Keeps.of_below hB2 _ _ hX1.out.1.2.1
  have x2 := Keeps.of_below hB2 _ _ hX1.out.1.2.2.1
  have x3 := Keeps.of_below hB2 _ _ hX1.out.1.2.2.2.1
  have x4 := Keeps.of_below hB2 _ _ hX1.out.1.2.2.2.2
  have hP := Lib.hid (pgP_mem w2)
  have hlt := hb2.out.size
  have hV5 := Lib.hid (Keeps.of_below (((((((Below.refl w2.heap.size w2).alloc (by simp) (.cells #[.string ⟨#[97]⟩] 9)).alloc (by simp <;> omega) (.cells #[.string ⟨#[97]⟩, .slice none 0 0] 28)).alloc (by simp <;> omega) (.cells #[.string ⟨#[84]⟩, .slice (some ⟨w2.heap.size + 1, 0, none⟩) 1 1] 28)).alloc (by simp <;> omega) (.cells #[.string ⟨#[65]⟩, .slice (some ⟨w2.heap.size + 1 + 1, 0, none⟩) 1 1, .string ⟨#[66]⟩, .slice none 0 0] 46)).alloc (by simp <;> omega) (.cells #[.string ⟨#[84]⟩, .slice (some ⟨w2.heap.size, 0, none⟩) 1 1, .slice (some ⟨w2.heap.size + 1 + 1 + 1, 0, none⟩) 2 2] 49))))
  replace x0 := hV5.out _ _ x0
  replace x1 := hV5.out _ _ x1
  replace x2 := hV5.out _ _ x2
  replace x3 := hV5.out _ _ x3
  replace x4 := hV5.out _ _ x4
  clear hV5
  clear hB2 hX1 hE1 hb1
  go_wp2_with fail
  refine (print_Prog pgP _ _ hP.out.1 (ht'.out.below (hb2.out.trans (hP.out.2.mono hlt))) (fun _ => by rw [text_P]; simp)).mono ?_
  rw [prg_P.1, prg_P.2]
  rintro e w3 ⟨rfl, hB3⟩
  have hb3 := Lib.hid (hP.out.2.trans (hB3.mono hP.out.2.size))
  have hb3' := Lib.hid (hb2.out.trans (hb3.out.mono hlt))
  have hQ := Lib.hid (pgQ_mem w3)
  have hE3 := Lib.hid (IsEx.keeps (Keeps.of_below hb3.out) _ _ hE2.out)
  clear hB3 x0 x1 x2 x3 x4
  go_wp2_with fail
  refine (print_Prog pgQ _ _ hQ.out.1 (ht'.out.below (hb3'.out.trans (hQ.out.2.mono hb3'.out.size))) (fun h => by rw [prog_Q] at h; simp at h)).mono ?_
  rw [prg_Q.1, prg_Q.2]
  rintro e w4 ⟨rfl, hB4⟩
  have hb4 := Lib.hid (hQ.out.2.trans (hB4.mono hQ.out.2.size))
  have hb24 := Lib.hid (hb3.out.trans (hb4.out.mono hb3.out.size))
  have hE4 := Lib.hid (IsEx.keeps (Keeps.of_below hb4.out) _ _ hE3.out)
  have hS := Lib.hid (sgF_mem w4)
  clear hB4
  have q1 : ((⟨#[92, 120, 32, 45, 62, 32, 102, 32, 40, 102, 32, 120, 41]⟩ : ByteArray).toList == [92, 120, 32, 45, 62, 32, 102, 32, 40, 102, 32, 120, 41]) = true := by rw [Lib.toList_data]; rfl
  have q2 : ((⟨#[123, 32, 100, 97, 116, 97, 32, 84, 32, 97, 32, 61, 32, 65, 32, 40, 84, 32, 97, 41, 32, 124, 32, 66, 32, 59, 32, 102, 32, 61, 32, 120, 32, 125]⟩ : ByteArray).toList == [123, 32, 100, 97, 116, 97, 32, 84, 32, 97, 32, 61, 32, 65, 32, 40, 84, 32, 97, 41, 32, 124, 32, 66, 32, 59, 32, 102, 32, 61, 32, 120, 32, 125]) = true := by rw [Lib.toList_data]; rfl
  have q3 : ((mkS [97, 32, 45, 62, 32, 98]).toList == [97, 32, 45, 62, 32, 98]) = true := by rw [Lib.toList_data]; rfl
  go_wp2_with fail
  refine (print_Sig sgF _ _ hS.out.1 (fun _ => by rw [text_F]; simp)).mono ?_
  rw [if_pos small_F, text_F]
  rintro e w5 ⟨rfl, hB5⟩
  have hb5 := Lib.hid (hS.out.2.trans (hB5.mono hS.out.2.size))
  have hb25 := Lib.hid (hb24.out.trans (hb5.out.mono hb24.out.size))
  have hE5 := Lib.hid (IsEx.keeps (Keeps.of_below hb5.out) _ _ hE4.out)
  obtain ⟨y0, y1, y2, y3, y4⟩ := hY2.out w5 hb25.out
  clear hB5
  go_wp2_with fail
  refine (r04_Check exE _ _ hE5.out).mono ?_
  rw [chk_E]
  rintro e w6 ⟨rfl, hB6⟩
  go_wp2_with fail
  go_ret
  exact ⟨rfl, (hb2.out.trans (hb25.out.mono hlt)).trans (hB6.mono (by have := hb25.out.size; omega))⟩
end Go.Proofs.YtpdfeadajgokkaaGreatDoor
