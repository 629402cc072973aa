/- Walks: which calls commute, overwrite, only read, and meddle, of the reference's text. -/
import Derived.Test.YtnebpcpihldllaaRReached
namespace Go.Proofs.Ytnebpcpihldllaa
open Go.RowKit Go.Lin

set_option maxHeartbeats 2000000 in
theorem refCommute92_any (M : Mach) (hM : M.WF) (sB : Nat → Nat → Bool) (hsB : ∀ a b, sB a b = true ↔ NoTells M M a b) (mv : Value) (z a b : Nat) (w : World) (hz0 : z < M.n) (ha : a < M.k) (hb : b < M.k) (hm : IsMach w mv M) :
    Calls Try.prog 92 #[mv, .int .i64 (z : Int), .int .i64 (a : Int), .int .i64 (b : Int)] w fun e w' => e = .returned (.bool (commuteB M sB z a b)) ∧ Grew w w' := by
  have okab : OkW M.k [a, b] := fun x hx => by simp at hx; omega
  have okba : OkW M.k [b, a] := fun x hx => by simp at hx; omega
  have hna := hM.nx z hz0 a ha
  have hnb := hM.nx z hz0 b hb
  have hnab := hM.nx _ hna b hb
  have hnba := hM.nx _ hnb a ha
  have HR1 := hid (fun (y : World) (hy : Grew w y) => refRun_any M hM mv _ z [a, b] _ hz0 okab (by simp) (hm.grew (grew_alloc hy _)) (nats_two y a b))
  have HR2 := hid (fun (y : World) (hy : Grew w y) => refRun_any M hM mv _ z [b, a] _ hz0 okba (by simp) (hm.grew (grew_alloc hy _)) (nats_two y b a))
  have HSM := hid (fun (y : World) (hy : Grew w y) => refSame66_any M hM sB hsB mv _ _ y hnab hnba (hm.grew hy))
  simp only [Lin.stM, anM, List.foldl_cons, List.foldl_nil, List.length_cons, List.length_nil] at HR1 HR2
  obtain ⟨p1, hp1⟩ : ∃ p, M.sy z a = p := ⟨_, rfl⟩
  obtain ⟨p2, hp2⟩ : ∃ p, M.sy (M.nx z a) b = p := ⟨_, rfl⟩
  obtain ⟨q1, hq1⟩ : ∃ p, M.sy z b = p := ⟨_, rfl⟩
  obtain ⟨q2, hq2⟩ : ∃ p, M.sy (M.nx z b) a = p := ⟨_, rfl⟩
  obtain ⟨sv, hsv⟩ : ∃ p, sB (M.nx (M.nx z a) b) (M.nx (M.nx z b) a) = p := ⟨_, rfl⟩
  have hcb : commuteB M sB z a b = ((decide (p1 = q2) && decide (p2 = q1)) && sv) := by unfold commuteB; rw [hp1, hp2, hq1, hq2, hsv]
  rw [hp1, hp2] at HR1
  rw [hq1, hq2] at HR2
  rw [hsv] at HSM
  rw [hcb]
  obtain ⟨b1, off1, c1, b2, off2, c2, rfl, _, _⟩ := hm
  obtain ⟨W0, hW0, g0, k0, k1, k2, k3, hz⟩ := box4 w (.int .i64 (M.n : Int)) (.int .i64 (M.k : Int)) (.slice (some ⟨b1, off1, none⟩) M.n c1) (.slice (some ⟨b2, off2, none⟩) M.n c2) 24
  have hg := grew_refl W0
  clear hp1 hp2 hq1 hq2 hsv hcb hsB okab okba
  have e1 : (p1 == q2) = true ∨ (p1 == q2) = false := by cases p1 == q2 <;> simp
  have e2 : (p2 == q1) = true ∨ (p2 == q1) = false := by cases p2 == q1 <;> simp
  have hd1 : decide (p1 = q2) = (p1 == q2) := by rw [Bool.eq_iff_iff]; simp
  have hd2 : decide (p2 = q1) = (p2 == q1) := by rw [Bool.eq_iff_iff]; simp
  rw [hd1, hd2]
  clear hd1 hd2
  rcases e1 with e1 | e1 <;> rcases e2 with e2 | e2
  all_goals
    go_enter Try.func92, Try.ntmps92
    go_wp2_with (first
      | (go_at_call 77; with_reducible refine (HR1.out _ (grew_trans g0 hg)).mono ?_; rintro e w1 ⟨u1, rfl, hs1, hx1⟩; obtain ⟨x1, x2, x3, rfl, x4, x5, x6⟩ := seg_two hs1; clear hs1; replace hg := grew_trans hg (grew_trans (grew_alloc (grew_refl _) _) hx1); have hc := (bcell hg).1; have hza := Nat.lt_of_lt_of_le hz hg.size; have hgg := grew_refl w1)
      | (go_at_call 77; with_reducible refine (HR2.out _ (grew_trans g0 hg)).mono ?_; rintro e w2 ⟨u2, rfl, hs2, hx2⟩; obtain ⟨y1, y2, y3, rfl, y4, y5, y6⟩ := seg_two hs2; clear hs2; replace hgg := grew_trans (grew_alloc (grew_refl w1) _) hx2; replace hg := grew_trans hg hgg; have hc := (bcell hg).1; have hza := Nat.lt_of_lt_of_le hz hg.size; have hx4 := (hgg.cell (p := ⟨x1, x2, none⟩) x6).trans x4; have hx5 := (hgg.cell (p := ⟨x1, x2 + 1, none⟩) x6).trans x5; have hx6' := Nat.lt_of_lt_of_le x6 hgg.size; clear x4 x5))
    refine wp_region_later (by kernel_rfl) (by kernel_rfl) (fun hL => ?_)
    repeat (go_big_quiet_step ((go_at_call 66; exact calls_later (HSM.out _ (grew_trans (grew_trans g0 hg) (Subtype.property _))))))
    refine wpQuiet_nil ?_
    rintro wy ⟨y, hy⟩
    have hgy : Grew w wy := by rw [hy]; exact grew_trans (grew_trans g0 hg) y.2
    clear hL hy y
    go_wp2
    go_ret
    exact ⟨ret_bool (by simp [e1, e2]), hgy⟩
set_option maxHeartbeats 2000000 in
theorem refOver94_any (M : Mach) (hM : M.WF) (sB : Nat → Nat → Bool) (hsB : ∀ a b, sB a b = true ↔ NoTells M M a b) (mv : Value) (z a b : Nat) (w : World) (hz0 : z < M.n) (ha : a < M.k) (hb : b < M.k) (hm : IsMach w mv M) :
    Calls Try.prog 94 #[mv, .int .i64 (z : Int), .int .i64 (a : Int), .int .i64 (b : Int)] w fun e w' => e = .returned (.bool (overB M sB z a b)) ∧ Grew w w' := by
  have okab : OkW M.k [a, b] := fun x hx => by simp at hx; omega
  have okb : OkW M.k [b] := fun x hx => by simp at hx; omega
  have hna := hM.nx z hz0 a ha
  have hnb := hM.nx z hz0 b hb
  have hnab := hM.nx _ hna b hb
  have HR1 := hid (fun (y : World) (hy : Grew w y) => refRun_any M hM mv _ z [a, b] _ hz0 okab (by simp) (hm.grew (grew_alloc hy _)) (nats_two y a b))
  have HR2 := hid (fun (y : World) (hy : Grew w y) => refRun_any M hM mv _ z [b] _ hz0 okb (by simp) (hm.grew (grew_alloc hy _)) (nats_one y b))
  have HSM := hid (fun (y : World) (hy : Grew w y) => refSame66_any M hM sB hsB mv _ _ y hnab hnb (hm.grew hy))
  simp only [Lin.stM, anM, List.foldl_cons, List.foldl_nil, List.length_cons, List.length_nil] at HR1 HR2
  obtain ⟨p2, hp2⟩ : ∃ p, M.sy (M.nx z a) b = p := ⟨_, rfl⟩
  obtain ⟨q1, hq1⟩ : ∃ p, M.sy z b = p := ⟨_, rfl⟩
  obtain ⟨sv, hsv⟩ : ∃ p, sB (M.nx (M.nx z a) b) (M.nx z b) = p := ⟨_, rfl⟩
  have hcb : overB M sB z a b = (decide (p2 = q1) && sv) := by unfold overB; rw [hp2, hq1, hsv]
  rw [hp2] at HR1
  rw [hq1] at HR2
  rw [hsv] at HSM
  rw [hcb]
  obtain ⟨b1, off1, c1, b2, off2, c2, rfl, _, _⟩ := hm
  obtain ⟨W0, hW0, g0, k0, k1, k2, k3, hz⟩ := box4 w (.int .i64 (M.n : Int)) (.int .i64 (M.k : Int)) (.slice (some ⟨b1, off1, none⟩) M.n c1) (.slice (some ⟨b2, off2, none⟩) M.n c2) 24
  have hg := grew_refl W0
  clear hp2 hq1 hsv hcb hsB okab okb
  have e2 : (p2 == q1) = true ∨ (p2 == q1) = false := by cases p2 == q1 <;> simp
  have hd2 : decide (p2 = q1) = (p2 == q1) := by rw [Bool.eq_iff_iff]; simp
  rw [hd2]
  clear hd2
  rcases e2 with e2 | e2
  all_goals
    go_enter Try.func94, Try.ntmps94
    go_wp2_with (first
      | (go_at_call 77; with_reducible refine (HR1.out _ (grew_trans g0 hg)).mono ?_; rintro e w1 ⟨u1, rfl, hs1, hx1⟩; obtain ⟨x1, x2, x3, rfl, x4, x5, x6⟩ := seg_two hs1; clear hs1; replace hg := grew_trans hg (grew_trans (grew_alloc (grew_refl _) _) hx1); have hc := (bcell hg).1; have hza := Nat.lt_of_lt_of_le hz hg.size; have hgg := grew_refl w1)
      | (go_at_call 77; with_reducible refine (HR2.out _ (grew_trans g0 hg)).mono ?_; rintro e w2 ⟨u2, rfl, hs2, hx2⟩; obtain ⟨y1, y2, y3, rfl, y4, y6⟩ := seg_one hs2; clear hs2; replace hgg := grew_trans (grew_alloc (grew_refl w1) _) hx2; replace hg := grew_trans hg hgg; have hc := (bcell hg).1; have hza := Nat.lt_of_lt_of_le hz hg.size; have hx4 := (hgg.cell (p := ⟨x1, x2, none⟩) x6).trans x4; have hx5 := (hgg.cell (p := ⟨x1, x2 + 1, none⟩) x6).trans x5; have hx6' := Nat.lt_of_lt_of_le x6 hgg.size; clear x4 x5))
    refine wp_region_later (by kernel_rfl) (by kernel_rfl) (fun hL => ?_)
    repeat (go_big_quiet_step ((go_at_call 66; exact calls_later (HSM.out _ (grew_trans (grew_trans g0 hg) (Subtype.property _))))))
    refine wpQuiet_nil ?_
    rintro wy ⟨y, hy⟩
    have hgy : Grew w wy := by rw [hy]; exact grew_trans (grew_trans g0 hg) y.2
    clear hL hy y
    go_wp2
    go_ret
    exact ⟨ret_bool (by simp [e2]), hgy⟩


set_option maxHeartbeats 2000000 in
theorem refCalls91_any (s : RSpec) (z a b : Int) (sv : Value) (w : World) (hs : IsSpec w sv s) :
    Calls Try.prog 91 #[sv, .int .i64 z, .int .i64 a, .int .i64 b] w fun e w' => e = .returned (.int .i64 (callsM s z a b)) ∧ Grew w w' := by
  have HAS := fun (y : World) (hy : Grew w y) => asked_any s _ z z y (hs.grew hy)
  have HA := fun (y : World) (hy : Grew w y) => isOp_any s _ a y (hs.grew hy)
  have HB := fun (y : World) (hy : Grew w y) => isOp_any s _ b y (hs.grew hy)
  unfold callsM
  rw [asked_diag] at HAS
  obtain ⟨nv, yv, rfl, _, _⟩ := hs
  obtain ⟨W0, hW0, g0, k0, k1, k2, k3, hz⟩ := box4 w (.int .i64 s.st) (.int .i64 s.ops) nv yv 24
  have hg := grew_refl W0
  obtain ⟨v1, hv1⟩ : ∃ v, inM s.ops a = v := ⟨_, rfl⟩
  obtain ⟨v2, hv2⟩ : ∃ v, inM s.ops b = v := ⟨_, rfl⟩
  rw [hv1] at HA
  rw [hv2] at HB
  rw [hv1, hv2]
  obtain ⟨v3, hv3⟩ : ∃ v, validM s = v := ⟨_, rfl⟩
  obtain ⟨v4, hv4⟩ : ∃ v, inM s.st z = v := ⟨_, rfl⟩
  rw [hv3, hv4] at HAS ⊢
  clear hv1 hv2 hv3 hv4
  cases v3 <;> cases v4 <;> cases v1 <;> cases v2
  all_goals
    simp only [Bool.and_true, Bool.and_false, if_true, if_false, Bool.false_eq_true] at HAS ⊢
    replace HAS := hid HAS; replace HA := hid HA; replace HB := hid HB
    go_enter Try.func91, Try.ntmps91
    go_wp2_with (first
      | (go_at_call 61; with_reducible refine (HAS.out _ (grew_trans g0 hg)).mono ?_; rintro e w2 ⟨rfl, hx⟩; replace hg := grew_trans hg hx; have hc := (bcell hg).1; have hzz := Nat.lt_of_lt_of_le hz hg.size; clear hx)
      | (go_at_call 83; with_reducible refine (HA.out _ (grew_trans g0 hg)).mono ?_; rintro e w3 ⟨rfl, hx⟩; replace hg := grew_trans hg hx; have hc := (bcell hg).1; have hzz := Nat.lt_of_lt_of_le hz hg.size; clear hx)
      | (go_at_call 83; with_reducible refine (HB.out _ (grew_trans g0 hg)).mono ?_; rintro e w4 ⟨rfl, hx⟩; replace hg := grew_trans hg hx; have hc := (bcell hg).1; have hzz := Nat.lt_of_lt_of_le hz hg.size; clear hx))
    go_ret
    exact ⟨rfl, grew_trans g0 hg⟩

set_option maxHeartbeats 1000000 in
theorem refCommute_any (s : RSpec) (sB : Nat → Nat → Bool) (hsB : ∀ a b, sB a b = true ↔ NoTells (machOf s) (machOf s) a b) (z a b : Int) (sv : Value) (w : World) (hs : IsSpec w sv s) :
    Calls Try.prog 45 #[sv, .int .i64 z, .int .i64 a, .int .i64 b] w fun e w' => e = .returned (.tuple #[.bool (commuteOf s sB z a b), .int .i64 (callsM s z a b)]) ∧ Grew w w' := by
  have HC := fun (y : World) (hy : Grew w y) => refCalls91_any s z a b _ y (hs.grew hy)
  unfold commuteOf
  by_cases h0 : callsM s z a b = 0
  · obtain ⟨hv, z', a', b', rfl, rfl, rfl, h1, h2, h3⟩ := calls_parts h0
    have HK := hid (fun (y : World) (hy : Grew w y) => refCommute92_any (machOf s) (wf_machOf hv) sB hsB sv z' a' b' y h1 h2 h3 ((hs.isMach hv).grew hy))
    rw [if_pos h0, h0]
    rw [h0] at HC
    replace HC := hid HC
    obtain ⟨r, hr⟩ : ∃ r, commuteB (machOf s) sB z' a' b' = r := ⟨_, rfl⟩
    simp only [Int.toNat_natCast]
    rw [hr] at HK ⊢
    obtain ⟨nv, yv, rfl, _, _⟩ := hs
    obtain ⟨W0, hW0, g0, k0, k1, k2, k3, hz⟩ := box4 w (.int .i64 s.st) (.int .i64 s.ops) nv yv 24
    have hg := grew_refl W0
    clear h0 hr hv hsB
    go_enter Try.func45, Try.ntmps45
    go_wp2_with (first
      | (go_at_call 91; with_reducible refine (HC.out _ (grew_trans g0 hg)).mono ?_; rintro e w2 ⟨rfl, hx⟩; replace hg := grew_trans hg hx; have hc := (bcell hg).1; clear hx)
      | (go_at_call 92; with_reducible refine (HK.out _ (grew_trans g0 hg)).mono ?_; rintro e w3 ⟨rfl, hx⟩; replace hg := grew_trans hg hx))
    go_ret2
    exact ⟨rfl, grew_trans g0 hg⟩
  · rw [if_neg h0]
    obtain ⟨r, hr⟩ : ∃ r, callsM s z a b = r := ⟨_, rfl⟩
    rw [hr] at HC h0 ⊢
    replace HC := hid HC
    obtain ⟨nv, yv, rfl, _, _⟩ := hs
    obtain ⟨W0, hW0, g0, k0, k1, k2, k3, hz⟩ := box4 w (.int .i64 s.st) (.int .i64 s.ops) nv yv 24
    have hb : (r == 0) = false := beq_false_of_ne h0
    clear h0 hr hsB
    go_enter Try.func45, Try.ntmps45
    go_wp2_with (go_at_call 91; with_reducible refine (HC.out _ g0).mono ?_; rintro e w2 ⟨rfl, hx⟩)
    go_ret2
    exact ⟨rfl, grew_trans g0 hx⟩

set_option maxHeartbeats 1000000 in
theorem refOver_any (s : RSpec) (sB : Nat → Nat → Bool) (hsB : ∀ a b, sB a b = true ↔ NoTells (machOf s) (machOf s) a b) (z a b : Int) (sv : Value) (w : World) (hs : IsSpec w sv s) :
    Calls Try.prog 47 #[sv, .int .i64 z, .int .i64 a, .int .i64 b] w fun e w' => e = .returned (.tuple #[.bool (overOf s sB z a b), .int .i64 (callsM s z a b)]) ∧ Grew w w' := by
  have HC := fun (y : World) (hy : Grew w y) => refCalls91_any s z a b _ y (hs.grew hy)
  unfold overOf
  by_cases h0 : callsM s z a b = 0
  · obtain ⟨hv, z', a', b', rfl, rfl, rfl, h1, h2, h3⟩ := calls_parts h0
    have HK := hid (fun (y : World) (hy : Grew w y) => refOver94_any (machOf s) (wf_machOf hv) sB hsB sv z' a' b' y h1 h2 h3 ((hs.isMach hv).grew hy))
    rw [if_pos h0, h0]
    rw [h0] at HC
    replace HC := hid HC
    obtain ⟨r, hr⟩ : ∃ r, overB (machOf s) sB z' a' b' = r := ⟨_, rfl⟩
    simp only [Int.toNat_natCast]
    rw [hr] at HK ⊢
    obtain ⟨nv, yv, rfl, _, _⟩ := hs
    obtain ⟨W0, hW0, g0, k0, k1, k2, k3, hz⟩ := box4 w (.int .i64 s.st) (.int .i64 s.ops) nv yv 24
    have hg := grew_refl W0
    clear h0 hr hv hsB
    go_enter Try.func47, Try.ntmps47
    go_wp2_with (first
      | (go_at_call 91; with_reducible refine (HC.out _ (grew_trans g0 hg)).mono ?_; rintro e w2 ⟨rfl, hx⟩; replace hg := grew_trans hg hx; have hc := (bcell hg).1; clear hx)
      | (go_at_call 94; with_reducible refine (HK.out _ (grew_trans g0 hg)).mono ?_; rintro e w3 ⟨rfl, hx⟩; replace hg := grew_trans hg hx))
    go_ret2
    exact ⟨rfl, grew_trans g0 hg⟩
  · rw [if_neg h0]
    obtain ⟨r, hr⟩ : ∃ r, callsM s z a b = r := ⟨_, rfl⟩
    rw [hr] at HC h0 ⊢
    replace HC := hid HC
    obtain ⟨nv, yv, rfl, _, _⟩ := hs
    obtain ⟨W0, hW0, g0, k0, k1, k2, k3, hz⟩ := box4 w (.int .i64 s.st) (.int .i64 s.ops) nv yv 24
    have hb : (r == 0) = false := beq_false_of_ne h0
    clear h0 hr hsB
    go_enter Try.func47, Try.ntmps47
    go_wp2_with (go_at_call 91; with_reducible refine (HC.out _ g0).mono ?_; rintro e w2 ⟨rfl, hx⟩)
    go_ret2
    exact ⟨rfl, grew_trans g0 hx⟩

set_option maxHeartbeats 4000000 in
theorem refMeddles_ok (s : RSpec) (sB : Nat → Nat → Bool) (hsB : ∀ a b, sB a b = true ↔ NoTells (machOf s) (machOf s) a b) (sv : Value) (w : World) (hs : IsSpec w sv s) (hv : validM s = true) :
    Calls Try.prog 51 #[sv] w fun e w' => ∃ q a b ev : Int, e = .returned (.tuple #[.int .i64 q, .int .i64 a, .int .i64 b, .int .i64 ev]) ∧ MedIs (machOf s) sB q a b ev ∧ Grew w w' := by
  have HRV := hid (fun (y : World) (hy : Grew w y) => refValid_any s _ y (hs.grew hy))
  rw [hv] at HRV
  have hM := wf_machOf hv
  have hmach := hs.isMach hv
  clear hs
  obtain ⟨M, hMe⟩ : ∃ M, machOf s = M := ⟨_, rfl⟩
  rw [hMe] at hsB hM hmach ⊢
  have HRE := hid (fun (y : World) (hy : Grew w y) => refReached99_any M hM _ y (hmach.grew hy))
  have HCM := hid (fun (q a b : Nat) (y : World) (hy : Grew w y) (h1 : q < M.n) (h2 : a < M.k) (h3 : b < M.k) => refCommute92_any M hM sB hsB _ q a b y h1 h2 h3 (hmach.grew hy))
  have HOV := hid (fun (q a b : Nat) (y : World) (hy : Grew w y) (h1 : q < M.n) (h2 : a < M.k) (h3 : b < M.k) => refOver94_any M hM sB hsB _ q a b y h1 h2 h3 (hmach.grew hy))
  obtain ⟨b1, off1, c1, b2, off2, c2, rfl, _, _⟩ := hmach
  have n8 := hM.n8
  have k4 := hM.k4
  have HLT := hid (fun (i : Nat) (hi : i < (reachL M).length) => show nthN (reachL M) i < M.n from by
    have hmem : nthN (reachL M) i ∈ reachL M := by rw [nthN_lt hi]; exact List.getElem_mem hi
    obtain ⟨v, hv, he⟩ := (mem_reachL hM).1 hmem
    rw [← he]; exact stM_lt hM hM.n1 hv)
  clear hMe hsB
  obtain ⟨W0, hW0, g0, k0, k1, k2, k3, hz⟩ := box4 w (.int .i64 (M.n : Int)) (.int .i64 (M.k : Int)) (.slice (some ⟨b1, off1, none⟩) M.n c1) (.slice (some ⟨b2, off2, none⟩) M.n c2) 24
  obtain ⟨xs, hxs⟩ : ∃ xs, reachL M = xs := ⟨_, rfl⟩
  have hnz := NoMed.zero M sB
  have HXS := hid hxs
  have HNZ := hid hnz
  rw [hxs] at HRE HLT
  clear hxs hnz
  go_enter Try.func51, Try.ntmps51
  go_wp2_with (first
    | (go_at_call 33; with_reducible refine (HRV.out _ g0).mono ?_; rintro e w1 ⟨rfl, hx⟩; have hg := hx; have hc := (bcell hg).1; have hz5 := hz)
    | (go_at_call 99; (with_reducible refine (HRE.out _ (grew_trans g0 hg)).mono ?_); rintro e w2 ⟨u, rfl, hnat, hg2⟩; have HNAT := hid hnat; clear hnat; obtain ⟨ua, uc, rfl⟩ := nats_shape' HNAT.out))
  clear hc
  have h0 := grew_trans g0 (grew_trans hg hg2)
  go_loopg [16] xs.length (fun g i wr => ∃ k : Nat, k ≤ xs.length ∧ i = .int .i64 k ∧ Hid (g = xs.length - k) ∧ Grew w2 wr ∧ Hid (NoMed M sB k 0 0))
  case atStart => exact ⟨0, Nat.zero_le _, rfl, hid rfl, grew_refl _, HNZ⟩
  case round =>
    obtain ⟨k, hk, rfl, HG, hgr, HN⟩ := hrel
    have hgg := grew_trans hg (grew_trans hg2 hgr)
    have hc := (bcell hgg).1
    have hzz := Nat.lt_of_lt_of_le hz5 hgg.size
    by_cases hlt : k < xs.length
    · obtain ⟨_, _, hve, _, hcx⟩ := HNAT.out
      simp only [Value.slice.injEq, true_and] at hve
      obtain ⟨rfl, rfl⟩ := hve
      obtain ⟨b, off, o, rfl, hb, _, hcx⟩ := hcx k hlt
      replace hcx : wr.cell? ⟨b, off + k, none⟩ = some (.int .i64 ((nthN xs k : Nat) : Int)) := (hgr.cell (p := ⟨b, off + k, none⟩) (lt_of_obj hb)).trans hcx
      have hql := HLT.out k hlt
      have HN0 := HN
      obtain ⟨q, hq⟩ : ∃ q, nthN xs k = q := ⟨_, rfl⟩
      rw [hq] at hcx hql
      have HQ := hid hq
      clear hb HN hq
      obtain ⟨wa, rfl⟩ : ∃ wa : World, wa = wr := ⟨_, rfl⟩
      go_wp2
      clear hcx hc hzz
      go_loopg [22] M.k (fun g i wr => ∃ a : Nat, a ≤ M.k ∧ i = .int .i64 a ∧ Hid (g = M.k - a) ∧ Grew w2 wr ∧ Hid (NoMed M sB k a 0))
      case atStart => exact ⟨0, Nat.zero_le _, rfl, hid rfl, hgr, HN0⟩
      case round =>
        clear HN0 hgg hgr
        obtain ⟨a, ha, rfl, HGA, hgr, HN⟩ := hrel
        have hgg := grew_trans hg (grew_trans hg2 hgr)
        have hc := (bcell hgg).1
        have hzz := Nat.lt_of_lt_of_le hz5 hgg.size
        by_cases hak : a < M.k
        · obtain ⟨wb, rfl⟩ : ∃ wb : World, wb = wr := ⟨_, rfl⟩
          go_wp2
          clear hc hzz
          go_loopg [9] (M.k - a) (fun g i wr => ∃ b : Nat, a ≤ b ∧ b ≤ M.k ∧ i = .int .i64 b ∧ Hid (g = M.k - b) ∧ Grew w2 wr ∧ Hid (NoMed M sB k a b))
          case atStart => exact ⟨a, Nat.le_refl _, ha, rfl, hid rfl, hgr, hid HN.out.row⟩
          case round =>
            clear HN hgg hgr
            obtain ⟨b', hab, hb', rfl, HGB, hgr, HN⟩ := hrel
            have hgg := grew_trans hg (grew_trans hg2 hgr)
            have hc := (bcell hgg).1
            have hzz := Nat.lt_of_lt_of_le hz5 hgg.size
            by_cases hbk : b' < M.k
            · obtain ⟨v1, hv1⟩ : ∃ v, commuteB M sB q a b' = v := ⟨_, rfl⟩
              obtain ⟨v2, hv2⟩ : ∃ v, overB M sB q a b' = v := ⟨_, rfl⟩
              obtain ⟨v3, hv3⟩ : ∃ v, overB M sB q b' a = v := ⟨_, rfl⟩
              have h1 := fun (y : World) (hy : Grew w y) => HCM.out q a b' y hy hql hak hbk
              have h2 := fun (y : World) (hy : Grew w y) => HOV.out q a b' y hy hql hak hbk
              have h3 := fun (y : World) (hy : Grew w y) => HOV.out q b' a y hy hql hbk hak
              rw [hv1] at h1
              rw [hv2] at h2
              rw [hv3] at h3
              have H1 := hid h1; have H2 := hid h2; have H3 := hid h3
              have hbad : badB M sB q a b' = (!v1 && !v2 && !v3) := by unfold badB; rw [hv1, hv2, hv3]
              have HBAD := hid hbad
              clear h1 h2 h3 hv1 hv2 hv3 hbad hgg
              cases v1 <;> cases v2 <;> cases v3
              all_goals
                go_wp2_with (first
                  | (go_at_call 92; (with_reducible refine (H1.out _ (grew_trans h0 hgr)).mono ?_); rintro e w7 ⟨rfl, hx7⟩; replace hgr := grew_trans hgr hx7; have hgg := grew_trans hg (grew_trans hg2 hgr); have hc := (bcell hgg).1; have hzz := Nat.lt_of_lt_of_le hz5 hgg.size; clear hx7 hgg)
                  | (go_at_call 94; (with_reducible refine (H2.out _ (grew_trans h0 hgr)).mono ?_); rintro e w8 ⟨rfl, hx8⟩; replace hgr := grew_trans hgr hx8; have hgg := grew_trans hg (grew_trans hg2 hgr); have hc := (bcell hgg).1; have hzz := Nat.lt_of_lt_of_le hz5 hgg.size; clear hx8 hgg)
                  | (go_at_call 94; (with_reducible refine (H3.out _ (grew_trans h0 hgr)).mono ?_); rintro e w9 ⟨rfl, hx9⟩; replace hgr := grew_trans hgr hx9; have hgg := grew_trans hg (grew_trans hg2 hgr); have hc := (bcell hgg).1; have hzz := Nat.lt_of_lt_of_le hz5 hgg.size; clear hx9 hgg))
              · (try simp only [Exit.inBlock, Exit.then])
                refine bodyPost_ret (results_tmp4 rfl _ _ _) rfl ?_
                refine ⟨(q : Int), (a : Int), (b' : Int), 0, rfl, .inl ⟨rfl, k, a, b', ?_, hak, hab, hbk, ?_, HN.out, ?_, rfl, rfl⟩, grew_trans h0 hgr⟩
                · rw [HXS.out]; exact hlt
                · rw [HXS.out, HQ.out]; exact HBAD.out
                · rw [HXS.out, HQ.out]
              all_goals
                go_roundg (M.k - (b' + 1))
                case measure => have := HGB.out; omega
                case rel => exact ⟨b' + 1, by omega, by omega, by go_num, hid rfl, hgr, hid (HN.out.next (by rw [HXS.out, HQ.out]; exact HBAD.out))⟩
            · obtain rfl : b' = M.k := by omega
              go_wp2
              go_roundg (M.k - (a + 1))
              case measure => have := HGA.out; omega
              case rel => exact ⟨a + 1, by omega, by go_num, hid rfl, hgr, hid HN.out.nextRow⟩
        · obtain rfl : a = M.k := by omega
          go_wp2
          go_roundg (xs.length - (k + 1))
          case measure => have := HG.out; omega
          case rel => exact ⟨k + 1, by omega, by go_num, hid rfl, hgr, hid HN.out.nextState⟩
    · obtain rfl : k = xs.length := by omega
      go_wp2
      (try simp only [Exit.inBlock, Exit.then])
      refine bodyPost_ret (results_tmp4 rfl _ _ _) rfl ?_
      have h := HN.out
      refine ⟨0, 0, 0, 5, rfl, .inr ⟨rfl, rfl, rfl, rfl, by rw [HXS.out]; exact h⟩, grew_trans g0 hgg⟩


theorem refMeddles_bad (s : RSpec) (sv : Value) (w : World) (hs : IsSpec w sv s) (hv : validM s = false) :
    Calls Try.prog 51 #[sv] w fun e w' => e = .returned (.tuple #[.int .i64 0, .int .i64 0, .int .i64 0, .int .i64 10]) ∧ Grew w w' := by
  have HRV := hid (fun (y : World) (hy : Grew w y) => refValid_any s _ y (hs.grew hy))
  rw [hv] at HRV
  obtain ⟨nv, yv, rfl, _, _⟩ := hs
  clear hv
  obtain ⟨W0, hW0, g0, k0, k1, k2, k3, hz⟩ := box4 w (.int .i64 s.st) (.int .i64 s.ops) nv yv 24
  go_enter Try.func51, Try.ntmps51
  go_wp2_with (go_at_call 33; with_reducible refine (HRV.out _ g0).mono ?_; rintro e w1 ⟨rfl, hx⟩; have hc := (bcell hx).1)
  (try simp only [Exit.inBlock, Exit.then])
  refine bodyPost_ret (results_tmp4 rfl _ _ _) rfl ?_
  exact ⟨rfl, grew_trans g0 hx⟩

set_option maxHeartbeats 4000000 in
theorem refReads_any (s : RSpec) (sB : Nat → Nat → Bool) (hsB : ∀ a b, sB a b = true ↔ NoTells (machOf s) (machOf s) a b) (a : Int) (sv : Value) (w : World) (hs : IsSpec w sv s) :
    Calls Try.prog 49 #[sv, .int .i64 a] w fun e w' => e = .returned (.tuple #[.bool (readsOf s sB a), .int .i64 (callsM s 0 a a)]) ∧ Grew w w' := by
  have HC := fun (y : World) (hy : Grew w y) => refCalls91_any s 0 a a _ y (hs.grew hy)
  unfold readsOf
  by_cases h0 : callsM s 0 a a = 0
  · obtain ⟨hv, z0, x, y0, hz0, rfl, hxy, -, hxk, -⟩ := calls_parts h0
    clear hz0 hxy
    rw [if_pos h0, h0]
    rw [h0] at HC
    replace HC := hid HC
    have hM := wf_machOf hv
    have hmach := hs.isMach hv
    clear hs h0
    obtain ⟨M, hMe⟩ : ∃ M, machOf s = M := ⟨_, rfl⟩
    rw [hMe] at hsB hM hxk hmach ⊢
    have HRE := hid (fun (y : World) (hy : Grew w y) => refReached99_any M hM _ y (hmach.grew hy))
    have HSM := hid (fun (a b : Nat) (y : World) (hy : Grew w y) (h1 : a < M.n) (h2 : b < M.n) => refSame66_any M hM sB hsB _ a b y h1 h2 (hmach.grew hy))
    obtain ⟨b1, off1, c1, b2, off2, c2, rfl, t1, _⟩ := hmach
    have HT1 := hid t1
    have HLT := hid (fun (i : Nat) (hi : i < (reachL M).length) => show nthN (reachL M) i < M.n ∧ nthN (reachL M) i ∈ reachL M from by
      have hmem : nthN (reachL M) i ∈ reachL M := by rw [nthN_lt hi]; exact List.getElem_mem hi
      obtain ⟨v, hv, he⟩ := (mem_reachL hM).1 hmem
      exact ⟨by rw [← he]; exact stM_lt hM hM.n1 hv, hmem⟩)
    have hfin : readsB M sB x = (reachL M).all (fun y => sB y (M.nx y x)) := rfl
    simp only [Int.toNat_natCast]
    rw [hfin]
    have n8 := hM.n8
    obtain ⟨xs, hxs⟩ : ∃ xs, reachL M = xs := ⟨_, rfl⟩
    rw [hxs] at HRE HLT ⊢
    have HNX := hid hM.nx
    clear hMe hsB hfin hxs t1 hM
    obtain ⟨W0, hW0, g0, k0, k1, k2, k3, hz⟩ := box4 w (.int .i64 (M.n : Int)) (.int .i64 (M.k : Int)) (.slice (some ⟨b1, off1, none⟩) M.n c1) (.slice (some ⟨b2, off2, none⟩) M.n c2) 24
    have hg := grew_refl W0
    go_enter Try.func49, Try.ntmps49
    go_wp2_with (first
      | (go_at_call 91; with_reducible refine (HC.out _ (grew_trans g0 hg)).mono ?_; rintro e w2 ⟨rfl, hx⟩; replace hg := grew_trans hg hx; have hc := (bcell hg).1; clear hx)
      | (go_at_call 99; (with_reducible refine (HRE.out _ (grew_trans g0 hg)).mono ?_); rintro e w3 ⟨u, rfl, hnat, hx⟩; replace hg := grew_trans hg hx; have HNAT := hid hnat; clear hnat; obtain ⟨ua, uc, rfl⟩ := nats_shape' HNAT.out))
    have hg3 := hg
    go_loopg [19] xs.length (fun g i wr => ∃ k : Nat, k ≤ xs.length ∧ i = .int .i64 k ∧ Hid (g = xs.length - k) ∧ Grew w3 wr ∧ Hid (∀ j, j < k → sB (nthN xs j) (M.nx (nthN xs j) x) = true))
    case atStart => exact ⟨0, Nat.zero_le _, rfl, hid rfl, grew_refl _, hid (fun j hj => by omega)⟩
    case round =>
      obtain ⟨k, hk, rfl, HG, hgr, HALL⟩ := hrel
      have hgg := grew_trans hg hgr
      have hc := (bcell hgg).1
      have hzz := Nat.lt_of_lt_of_le hz hgg.size
      by_cases hlt : k < xs.length
      · obtain ⟨_, _, hve, _, hcx⟩ := HNAT.out
        simp only [Value.slice.injEq, true_and] at hve
        obtain ⟨rfl, rfl⟩ := hve
        obtain ⟨b, off, o, rfl, hb, _, hcx⟩ := hcx k hlt
        replace hcx : wr.cell? ⟨b, off + k, none⟩ = some (.int .i64 ((nthN xs k : Nat) : Int)) := (hgr.cell (p := ⟨b, off + k, none⟩) (lt_of_obj hb)).trans hcx
        have hql := (HLT.out k hlt).1
        have hmem := (HLT.out k hlt).2
        obtain ⟨q, hq⟩ : ∃ q, nthN xs k = q := ⟨_, rfl⟩
        rw [hq] at hcx hql hmem
        have HQ := hid hq
        have hnx := HNX.out q hql x hxk
        have hbr : b < wr.heap.size := Nat.lt_of_lt_of_le (lt_of_obj hb) hgr.size
        have hzb1 := (HT1.out.grew (grew_trans g0 hgg)).1
        obtain ⟨d1, d2, d3, r1, r2, r3⟩ := (HT1.out.grew (grew_trans g0 hgg)).2 q hql
        replace r3 := r3 x hxk
        have HS1 := fun (y : World) (hy : Grew w y) => HSM.out q (M.nx q x) y hy hql hnx
        obtain ⟨v, hv⟩ : ∃ v, sB q (M.nx q x) = v := ⟨_, rfl⟩
        rw [hv] at HS1
        replace HS1 := hid HS1
        have HV := hid hv
        have HMEM := hid hmem
        have kk0 := (hc w.heap.size 0 hz).trans k0
        have kk1 := (hc w.heap.size 1 hz).trans k1
        have kk2 := (hc w.heap.size 2 hz).trans k2
        have kk3 := (hc w.heap.size 3 hz).trans k3
        clear hq hv hmem hb
        go_wp2
        refine wp_region_later (by kernel_rfl) (by kernel_rfl) (fun hL => ?_)
        repeat (go_big_quiet_step ((go_at_call 66; exact calls_later (HS1.out _ (grew_trans (grew_trans g0 hgg) (Subtype.property _))))))
        refine wpQuiet_nil ?_
        rintro wy ⟨y, hy⟩
        have hgy : Grew wr wy := by rw [hy]; exact y.2
        replace hgr := grew_trans hgr hgy
        clear hL hy y
        cases v
        · go_wp2
          go_ret2
          refine ⟨?_, grew_trans g0 (grew_trans hg hgr)⟩
          rw [show xs.all (fun y => sB y (M.nx y x)) = false from List.all_eq_false.2 ⟨q, HMEM.out, by rw [HV.out]; simp⟩]
          rfl
        · go_wp2
          go_roundg (xs.length - (k + 1))
          case measure => have := HG.out; omega
          case rel => exact ⟨k + 1, by omega, by go_num, hid rfl, hgr, hid (lt_succ_all HALL.out (by rw [HQ.out]; exact HV.out))⟩
      · obtain rfl : k = xs.length := by omega
        go_wp2
        go_ret2
        refine ⟨?_, grew_trans g0 hgg⟩
        rw [show xs.all (fun y => sB y (M.nx y x)) = true from List.all_eq_true.2 (fun y hy => by
          obtain ⟨i, hi, rfl⟩ := List.getElem_of_mem hy
          have := HALL.out i hi
          rwa [nthN_lt hi] at this)]
        rfl
  · rw [if_neg h0]
    obtain ⟨r, hr⟩ : ∃ r, callsM s 0 a a = r := ⟨_, rfl⟩
    rw [hr] at HC h0 ⊢
    replace HC := hid HC
    obtain ⟨nv, yv, rfl, _, _⟩ := hs
    obtain ⟨W0, hW0, g0, k0, k1, k2, k3, hz⟩ := box4 w (.int .i64 s.st) (.int .i64 s.ops) nv yv 24
    have hb : (r == 0) = false := beq_false_of_ne h0
    clear h0 hr hsB
    go_enter Try.func49, Try.ntmps49
    go_wp2_with (go_at_call 91; with_reducible refine (HC.out _ g0).mono ?_; rintro e w2 ⟨rfl, hx⟩)
    go_ret2
    exact ⟨rfl, grew_trans g0 hx⟩
end Go.Proofs.Ytnebpcpihldllaa
