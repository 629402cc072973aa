/- Plain: the script that TopKeep writes beside its deeds answers as they do. -/
import Derived.Test.YtmohnddglmolgaaGreatDoorKpScr
import Derived.Test.YtmohnddglmolgaaGreatDoorKpLawA
import Derived.Test.YtmohnddglmolgaaGreatDoorKpSane
namespace Go.Lin.Kp
open Go Go.Lin

/-- What a line that does something answers. -/
def ansT (e : Int) : List UInt8 := if e = 0 then [111, 107] else errT e

/-- A script has answered so, and left memory and book so. -/
def Scr (A : Bk → List UInt8 → List UInt8 × Int) (ls want : List (List UInt8)) (M : Mem) (b : Bk) : Prop := playR A ls Dk.new = (want, ⟨M, b⟩)

theorem scr_new (A : Bk → List UInt8 → List UInt8 × Int) : Scr A [] [] { Mem.new with opened := 1 } ⟨0, 1, []⟩ := rfl

theorem scr_line {A : Bk → List UInt8 → List UInt8 × Int} {ls want : List (List UInt8)} {M M' : Mem} {b b' : Bk} {x : List UInt8} {c : Cmd} {e : Int} (h : Scr A ls want M b) (hp : parseM x = some c) (hd : doM A ⟨M, b⟩ c = (okM e, ⟨M', b'⟩)) :
    Scr A (ls ++ [x]) (want ++ [ansT e]) M' b' := by
  unfold Scr at h ⊢
  rw [playR_snoc, h]
  dsimp only
  rw [line_some hp, hd]
  unfold ansT okM
  by_cases e0 : e = 0
  · rw [if_pos e0, if_pos e0]; rfl
  · rw [if_neg e0, if_neg e0]; dsimp only; rw [if_neg e0]

theorem scr_add {A : Bk → List UInt8 → List UInt8 × Int} {ls want : List (List UInt8)} {M : Mem} {b : Bk} (h : Scr A ls want M b) {n : Nat} (hn : n < 10000) :
    Scr A (ls ++ [wAdd ++ 32 :: Lib.decDigits n]) (want ++ [ansT (doD M b 0 n).1]) (doD M b 0 n).2.2 (doD M b 0 n).2.1 :=
  scr_line h (parse_add n hn) rfl

theorem scr_change {A : Bk → List UInt8 → List UInt8 × Int} {ls want : List (List UInt8)} {M : Mem} {b : Bk} (h : Scr A ls want M b) {a n : Nat} (ha : a < 10000) (hn : n < 10000) (h0 : a ≠ 0) :
    Scr A (ls ++ [wChange ++ 32 :: (Lib.decDigits a ++ 32 :: Lib.decDigits n)]) (want ++ [ansT (doD M b a n).1]) (doD M b a n).2.2 (doD M b a n).2.1 := by
  refine scr_line h (parse_change a n ha hn) ?_
  unfold doD
  rw [if_neg (by omega)]
  rfl

theorem scr_fail {A : Bk → List UInt8 → List UInt8 × Int} {ls want : List (List UInt8)} {M : Mem} {b : Bk} (h : Scr A ls want M b) {k c : Nat} (hk : k < 10000) (hc : c < 10000) (h0 : (M.planned k [(c : Int), 0]).1 = 0) :
    Scr A (ls ++ [wFail ++ 32 :: (Lib.decDigits k ++ 32 :: (Lib.decDigits c ++ [44, 48]))]) (want ++ [[111, 107]]) (M.planned k [(c : Int), 0]).2 b := by
  have := scr_line (e := 0) h (parse_fail k c hk hc) (M' := (M.planned k [(c : Int), 0]).2) (b' := b) (by
    show (okM (M.planned k [(c : Int), 0]).1, (⟨(M.planned k [(c : Int), 0]).2, b⟩ : Dk)) = _
    rw [h0])
  exact this

theorem scr_open {A : Bk → List UInt8 → List UInt8 × Int} {ls want : List (List UInt8)} {M M' : Mem} {b b' : Bk} (h : Scr A ls want M b) (ho : M.open_ = (some b', 0, M')) : Scr A (ls ++ [wOpen]) (want ++ [[111, 107]]) M' b' := by
  have := scr_line (e := 0) h parse_open (M' := M') (b' := b') (by
    show (okM M.open_.2.1, (⟨M.open_.2.2, M.open_.1.getD b⟩ : Dk)) = _
    rw [ho]; rfl)
  exact this

theorem scr_count {ls want : List (List UInt8)} {M : Mem} {b : Bk} {A : Bk → List UInt8 → List UInt8 × Int} (h : Scr A ls want M b) (hA : A b wCount = (Lib.itoa (b.list.length : Int), 0)) : playM A (ls ++ [wCount]) = want ++ [Lib.decDigits b.list.length] := by
  unfold Scr at h
  unfold playM
  rw [playR_snoc, h]
  dsimp only
  rw [line_some parse_count]
  show want ++ [if (A b wCount).2 = 0 then (A b wCount).1 else errT (A b wCount).2] = _
  rw [hA, if_pos rfl, itoa_nat]

theorem scr_len {A : Bk → List UInt8 → List UInt8 × Int} {ls want : List (List UInt8)} {M : Mem} {b : Bk} (h : Scr A ls want M b) : want.length = ls.length := by
  have := playR_len A Dk.new ls
  unfold Scr at h
  rw [h] at this; exact this

/-- Opening once behind a failure. -/
theorem down_once {M0 M : Mem} {K : Nat → Int} {l : List Int} (hd : Down M0 M K) (hr : Rec K l) : ∃ b M', M.open_ = (some b, 0, M') ∧ Fine M' b l := by
  have hp : M.start.plan = 0 := by unfold Mem.start; rw [if_neg (by rw [hd.off]; decide)]; exact (hd.ok.off hd.off).1
  obtain ⟨b, e, hf, _, _⟩ := open_sure hd.ok hd.start hr hp
  exact ⟨b, _, e, hf⟩

end Go.Lin.Kp
