/- Walks: what a memory answers that is nil or zero: Copy (29), SameMemory (35). -/
import Derived.Test.YtmohnddglmolgaaGreatDoorKpCopy
namespace Go.Proofs.YtmohnddglmolgaaGreatDoor
open Go Go.RowKit Go.Lin Go.Lin.Kp

theorem copy29_none (v : Value) (w : World) (h : Calls Tryz.prog 57 #[v] w fun e w' => e = .returned (.bool true) ∧ w = w') : Calls Tryz.prog 29 #[v] w fun e w' => e = .returned (.pointer none) ∧ w = w' := by
  have HN := hid h
  clear h
  go_enter Tryz.func29, Tryz.ntmps29
  go_wp2_with (go_at_call 57; (with_reducible refine HN.out.mono ?_); rintro e w1 ⟨rfl, rfl⟩)
  go_ret
  exact ⟨rfl, rfl⟩

theorem same35_none1 (v v' : Value) (q : Bool) (w : World) (h : Calls Tryz.prog 57 #[v] w fun e w' => e = .returned (.bool true) ∧ w = w') (h' : Calls Tryz.prog 57 #[v'] w fun e w' => e = .returned (.bool q) ∧ w = w') : Calls Tryz.prog 35 #[v, v'] w fun e w' => e = .returned (.bool q) ∧ w = w' := by
  have HN := hid h; have HN' := hid h'
  clear h h'
  cases q
  all_goals
    go_enter Tryz.func35, Tryz.ntmps35
    go_wp2_with (first
      | (go_at_call 57; (with_reducible refine HN.out.mono ?_); rintro e w1 ⟨rfl, rfl⟩)
      | (go_at_call 57; (with_reducible refine HN'.out.mono ?_); rintro e w1 ⟨rfl, rfl⟩))
    go_ret
    exact ⟨rfl, rfl⟩

theorem same35_none2 (v v' : Value) (w : World) (h : Calls Tryz.prog 57 #[v] w fun e w' => e = .returned (.bool false) ∧ w = w') (h' : Calls Tryz.prog 57 #[v'] w fun e w' => e = .returned (.bool true) ∧ w = w') : Calls Tryz.prog 35 #[v, v'] w fun e w' => e = .returned (.bool false) ∧ w = w' := by
  have HN := hid h; have HN' := hid h'
  clear h h'
  go_enter Tryz.func35, Tryz.ntmps35
  go_wp2_with (first
    | (go_at_call 57; (with_reducible refine HN.out.mono ?_); rintro e w1 ⟨rfl, rfl⟩)
    | (go_at_call 57; (with_reducible refine HN'.out.mono ?_); rintro e w1 ⟨rfl, rfl⟩))
  go_ret
  exact ⟨rfl, rfl⟩

theorem ask44_none (v : Value) (s : ByteArray) (w : World) (h : Calls Tryz.prog 51 #[v] w fun e w' => e = .returned (.bool true) ∧ w = w') : Calls Tryz.prog 44 #[v, .string s] w fun e w' => e = .returned (.tuple #[.string ⟨#[]⟩, .int .i64 102]) ∧ w = w' := by
  have HN := hid h
  clear h
  go_enter Tryz.func44, Tryz.ntmps44
  go_wp2_with (go_at_call 51; (with_reducible refine HN.out.mono ?_); rintro e w1 ⟨rfl, rfl⟩)
  go_ret2
  exact ⟨rfl, rfl⟩

theorem add31_none (v : Value) (n : Int) (w : World) (h : Calls Tryz.prog 51 #[v] w fun e w' => e = .returned (.bool true) ∧ w = w') : Calls Tryz.prog 31 #[v, .int .i64 n] w fun e w' => e = .returned (.int .i64 102) ∧ w = w' := by
  have HN := hid (asked64_none v n w h)
  clear h
  go_enter Tryz.func31, Tryz.ntmps31
  go_wp2_with (go_at_call 64; (with_reducible refine HN.out.mono ?_); rintro e w1 ⟨rfl, rfl⟩)
  go_ret
  exact ⟨rfl, rfl⟩

theorem change32_none (v : Value) (i n : Int) (w : World) (h : Calls Tryz.prog 51 #[v] w fun e w' => e = .returned (.bool true) ∧ w = w') : Calls Tryz.prog 32 #[v, .int .i64 i, .int .i64 n] w fun e w' => e = .returned (.int .i64 102) ∧ w = w' := by
  have HN := hid (asked64_none v n w h)
  clear h
  go_enter Tryz.func32, Tryz.ntmps32
  go_wp2_with (go_at_call 64; (with_reducible refine HN.out.mono ?_); rintro e w1 ⟨rfl, rfl⟩)
  go_ret
  exact ⟨rfl, rfl⟩

theorem done58_none (v f : Value) (r : Bool) (w : World) (h : Calls Tryz.prog 57 #[v] w fun e w' => e = .returned (.bool true) ∧ w = w') : Calls Tryz.prog 58 #[v, .bool r, f] w fun e w' => e = .returned (.int .i64 102) ∧ w = w' := by
  have HN := hid (asked53_none v r w h)
  clear h
  go_enter Tryz.func58, Tryz.ntmps58
  go_wp2_with (go_at_call 53; (with_reducible refine HN.out.mono ?_); rintro e w1 ⟨rfl, rfl⟩)
  go_ret
  exact ⟨rfl, rfl⟩

theorem fence43_none (a : Option Addr) (w : World) (h : NoMem (.pointer a)) : Calls Tryz.prog 43 #[.pointer a] w fun e w' => e = .returned (.int .i64 102) ∧ Grew w w' := by
  obtain ⟨w1, hw1, g1, k0, hz1⟩ := box1 w (.pointer a) 35
  have HN := hid (fun f => done58_none (.pointer a) f true w1 (h w1))
  have HG := hid g1
  clear h g1
  go_enter Tryz.func43, Tryz.ntmps43
  go_wp2_with (go_at_call 58; (with_reducible refine (HN.out _).mono ?_); rintro e w2 ⟨rfl, rfl⟩)
  go_ret
  exact ⟨rfl, HG.out⟩

end Go.Proofs.YtmohnddglmolgaaGreatDoor
