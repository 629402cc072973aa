/- The law SpecCommutes: it answers true of every input. -/
import Derived.Test.YtnebpcpihldllaaWMeddles
import Derived.Test.YtnebpcpihldllaaWReached2
import Derived.Test.YtnebpcpihldllaaLTurns
namespace Go.Lin

theorem commuteB_symm {M : Mach} {sB : Nat → Nat → Bool} (hsB : ∀ a b, sB a b = true ↔ NoTells M M a b) (z a b : Nat) : commuteB M sB z a b = commuteB M sB z b a := by
  unfold commuteB
  rw [Bool.eq_iff_iff]
  simp only [Bool.and_eq_true, decide_eq_true_eq, hsB]
  constructor
  · rintro ⟨⟨h1, h2⟩, h3⟩
    exact ⟨⟨h2.symm, h1.symm⟩, fun v hv => (h3 v hv).symm⟩
  · rintro ⟨⟨h1, h2⟩, h3⟩
    exact ⟨⟨h2.symm, h1.symm⟩, fun v hv => (h3 v hv).symm⟩

/-- Among the first i states that are reached a call has one answer. -/
def oneB (M : Mach) (xs : List Nat) (a i : Nat) : Bool := (xs.take i).all fun q => M.sy q a == M.sy 0 a

theorem oneB_succ {M : Mach} {xs : List Nat} {a i : Nat} (h : i < xs.length) : oneB M xs a (i + 1) = (oneB M xs a i && (M.sy (nthN xs i) a == M.sy 0 a)) := by
  unfold oneB
  rw [take_succ_nthN h, List.all_append]
  simp

theorem reads_commute {M : Mach} (hM : M.WF) {sB : Nat → Nat → Bool} (hsB : ∀ a b, sB a b = true ↔ NoTells M M a b) {a b q : Nat} (hb : b < M.k) (hr : readsB M sB a = true) (h1 : oneB M (reachL M) a (reachL M).length = true)
    (hq : q ∈ reachL M) : commuteB M sB q a b = true := by
  unfold readsB at hr
  unfold oneB at h1
  rw [List.take_of_length_le (Nat.le_refl _)] at h1
  rw [List.all_eq_true] at hr h1
  obtain ⟨v, hv, he⟩ := (mem_reachL hM).1 hq
  have hqb : M.nx q b ∈ reachL M := (mem_reachL hM).2 ⟨v ++ [b], fun x hx => (List.mem_append.1 hx).elim (hv x) (fun h => by simp at h; subst h; exact hb), by rw [stM_snoc, he]⟩
  have e1 : M.sy q a = M.sy 0 a := by simpa using h1 q hq
  have e2 : M.sy (M.nx q b) a = M.sy 0 a := by simpa using h1 _ hqb
  have n1 := (hsB _ _).1 (hr q hq)
  have n2 := (hsB _ _).1 (hr _ hqb)
  have cons : ∀ {x y : Nat}, NoTells M M x y → M.sy x b = M.sy y b ∧ NoTells M M (M.nx x b) (M.nx y b) := by
    intro x y h
    have ok1 : ∀ v, OkW M.k v → OkW M.k (b :: v) := fun v hv x hx => by
      rcases List.mem_cons.1 hx with rfl | hx
      · exact hb
      · exact hv x hx
    constructor
    · have := h [b] (ok1 [] (fun x hx => by simp at hx))
      simpa [anM] using this
    · intro v hv
      have := h (b :: v) (ok1 v hv)
      simp only [anM, List.cons.injEq] at this
      exact this.2
  obtain ⟨c1, c2⟩ := cons n1
  unfold commuteB
  simp only [Bool.and_eq_true, decide_eq_true_eq, hsB]
  exact ⟨⟨e1.trans e2.symm, c1.symm⟩, fun v hv => (c2 v hv).symm.trans (n2 v hv)⟩

theorem calls_ok {s : RSpec} (hv : validM s = true) {q a b : Nat} (hq : q < (machOf s).n) (ha : a < (machOf s).k) (hb : b < (machOf s).k) : callsM s (q : Int) (a : Int) (b : Int) = 0 := by
  obtain ⟨⟨s1, s8, o1, o4⟩, _⟩ := valid_parts hv
  simp only [machOf] at hq ha hb
  unfold callsM
  rw [hv, show inM s.st (q : Int) = true by unfold inM; simp; omega, show inM s.ops (a : Int) = true by unfold inM; simp; omega, show inM s.ops (b : Int) = true by unfold inM; simp; omega]
  rfl

theorem MedIs.parts {M : Mach} (hM : M.WF) {sB : Nat → Nat → Bool} {q a b ev : Int} (h : MedIs M sB q a b ev) :
    (ev = 0 ∧ ∃ z x y : Nat, q = (z : Int) ∧ a = (x : Int) ∧ b = (y : Int) ∧ z < M.n ∧ x < M.k ∧ y < M.k ∧ x ≤ y ∧ commuteB M sB z x y = false ∧ overB M sB z x y = false ∧ overB M sB z y x = false) ∨ ev = 5 := by
  rcases h with ⟨e, i, x, y, hi, hx, hxy, hy, hb, hn, e1, e2, e3⟩ | ⟨e, _⟩
  · refine .inl ⟨e, _, x, y, e1, e2, e3, ?_, hx, hy, hxy, ?_⟩
    · have hmem : nthN (reachL M) i ∈ reachL M := by rw [nthN_lt hi]; exact List.getElem_mem hi
      obtain ⟨v, hv, he⟩ := (mem_reachL hM).1 hmem
      rw [← he]; exact stM_lt hM hM.n1 hv
    · unfold badB at hb
      simp only [Bool.and_eq_true, Bool.not_eq_true'] at hb
      exact ⟨hb.1.1, hb.1.2, hb.2⟩
  · exact .inr e
end Go.Lin
namespace Go.Proofs.Ytnebpcpihldllaa
open Go.RowKit Go.Lin

theorem commute_ok (s : RSpec) (sB : Nat → Nat → Bool) (hsB : ∀ a b, sB a b = true ↔ NoTells (machOf s) (machOf s) a b) (q a b : Nat) (sv : Value) (w : World) (hs : IsSpec w sv s) (hv : validM s = true) (hq : q < (machOf s).n) (ha : a < (machOf s).k) (hb : b < (machOf s).k) :
    Calls Try.prog 41 #[sv, .int .i64 (q : Int), .int .i64 (a : Int), .int .i64 (b : Int)] w fun e w' => e = .returned (.tuple #[.bool (commuteB (machOf s) sB q a b), .int .i64 0]) ∧ Grew w w' := by
  have h := commute_any s sB hsB q a b sv w hs
  unfold commuteOf at h
  rw [calls_ok hv hq ha hb, if_pos rfl] at h
  exact h

theorem over_ok (s : RSpec) (sB : Nat → Nat → Bool) (hsB : ∀ a b, sB a b = true ↔ NoTells (machOf s) (machOf s) a b) (q a b : Nat) (sv : Value) (w : World) (hs : IsSpec w sv s) (hv : validM s = true) (hq : q < (machOf s).n) (ha : a < (machOf s).k) (hb : b < (machOf s).k) :
    Calls Try.prog 46 #[sv, .int .i64 (q : Int), .int .i64 (a : Int), .int .i64 (b : Int)] w fun e w' => e = .returned (.tuple #[.bool (overB (machOf s) sB q a b), .int .i64 0]) ∧ Grew w w' := by
  have h := over_any s sB hsB q a b sv w hs
  unfold overOf at h
  rw [calls_ok hv hq ha hb, if_pos rfl] at h
  exact h

theorem mod_nat {x m : Int} {n : Nat} (hx : 0 ≤ x) (hm : m = (n : Int)) (h1 : 1 ≤ n) : ∃ a : Nat, x.tmod m = (a : Int) ∧ a < n := by
  subst hm
  refine ⟨(x.tmod n).toNat, ?_, ?_⟩ <;> rw [Int.tmod_eq_emod_of_nonneg hx]
  · have := Int.emod_nonneg x (show (n : Int) ≠ 0 by omega); omega
  · have := Int.emod_nonneg x (show (n : Int) ≠ 0 by omega); have := Int.emod_lt_of_pos x (show 0 < (n : Int) by omega); omega

set_option maxHeartbeats 4000000 in
set_option maxRecDepth 100000 in
theorem specCommutes_law (s : RSpec) (x1 x2 x3 : Int) (sv : Value) (w : World) (h1 : 0 ≤ x1 ∧ x1 ≤ 255) (h2 : 0 ≤ x2 ∧ x2 ≤ 255) (h3 : 0 ≤ x3 ∧ x3 ≤ 255) (hs : IsSpec w sv s) :
    Calls Try.prog 14 #[sv, .int .u8 x1, .int .u8 x2, .int .u8 x3] w fun e w' => e = .returned (.bool true) ∧ Grew w w' := by
  have HS := hs
  have HRV := hid (fun (y : World) (hy : Grew w y) => refValid_any s _ y (HS.grew hy))
  have HLO := hid (fun (y : World) (hy : Grew w y) => long_any s _ y (HS.grew hy))
  cases hv : validM s with
  | false =>
    rw [hv] at HRV
    obtain ⟨na, nc, ya, yc, rfl⟩ := isSpec_open' hs
    obtain ⟨W0, hW0, g0, k0, k1, k2, k3, hz⟩ := box4 w (.int .i64 s.st) (.int .i64 s.ops) (.slice na s.next.length nc) (.slice ya s.says.length yc) 24
    have hg := grew_refl W0
    clear hs
    go_enter Try.func14, Try.ntmps14
    go_wp2_with (first
      | (go_at_call 16; with_reducible refine (HLO.out _ (grew_trans g0 hg)).mono ?_; rintro e w1 ⟨x1, rfl, hx1, hx⟩; replace hg := grew_trans hg hx; have hc := (bcell hg).1; clear hx; rcases hx1 with rfl | rfl)
      | (go_at_call 33; with_reducible refine (HRV.out _ (grew_trans g0 hg)).mono ?_; rintro e w2 ⟨rfl, hx⟩; replace hg := grew_trans hg hx; have hc := (bcell hg).1; clear hx)
      | (go_at_call 17; with_reducible refine (awake_any _).mono ?_; rintro e w6 ⟨rfl, hx6⟩))
    all_goals
      go_ret
      exact ⟨rfl, grew_trans (grew_trans g0 hg) hx6⟩
  | true =>
    rw [hv] at HRV
    have hM := wf_machOf hv
    obtain ⟨sB, cl, hSames⟩ := sames_exist (machOf s)
    have hsB := hSames.same
    have HCM := hid (fun (q a b : Nat) (y : World) (hy : Grew w y) (h1 : q < (machOf s).n) (h2 : a < (machOf s).k) (h3 : b < (machOf s).k) => commute_ok s sB hsB q a b sv y (HS.grew hy) hv h1 h2 h3)
    have HOV := hid (fun (q a b : Nat) (y : World) (hy : Grew w y) (h1 : q < (machOf s).n) (h2 : a < (machOf s).k) (h3 : b < (machOf s).k) => over_ok s sB hsB q a b sv y (HS.grew hy) hv h1 h2 h3)
    have HRD := hid (fun (a : Nat) (y : World) (hy : Grew w y) (h2 : a < (machOf s).k) => reads_ok s sB hsB a sv y (HS.grew hy) hv h2)
    have HRE := hid (fun (y : World) (hy : Grew w y) => reached_ok s _ y (HS.grew hy) hv)
    have HMD := hid (fun (y : World) (hy : Grew w y) => meddles_ok s sB hsB _ y (HS.grew hy) hv)
    have hmach := hs.isMach hv
    obtain ⟨M, hMe⟩ : ∃ M, machOf s = M := ⟨_, rfl⟩
    rw [hMe] at hM HCM HOV HRD HRE HMD hmach hsB
    clear hs hSames hv hMe
    obtain ⟨b1, off1, c1, b2, off2, c2, rfl, t1, t2⟩ := hmach
    obtain ⟨W0, hW0, g0, k0, k1, k2, k3, hz⟩ := box4 w (.int .i64 (M.n : Int)) (.int .i64 (M.k : Int)) (.slice (some ⟨b1, off1, none⟩) M.n c1) (.slice (some ⟨b2, off2, none⟩) M.n c2) 24
    have hg := grew_refl W0
    obtain ⟨a, ha, hak⟩ := mod_nat (m := (M.k : Int)) h2.1 rfl hM.k1
    obtain ⟨b, hb, hbk⟩ := mod_nat (m := (M.k : Int)) h3.1 rfl hM.k1
    obtain ⟨p, hp, hpn⟩ := mod_nat (m := (M.n : Int)) h1.1 rfl hM.n1
    have n1 := hM.n1; have n8 := hM.n8; have k1' := hM.k1; have k4' := hM.k4
    have T2 := hid t2
    have hsym := commuteB_symm hsB p a b
    obtain ⟨is, his⟩ : ∃ is, commuteB M sB p a b = is := ⟨_, rfl⟩
    have HI1 := fun (y : World) (hy : Grew w y) => HCM.out p a b y hy hpn hak hbk
    have HI2 := fun (y : World) (hy : Grew w y) => HCM.out p b a y hy hpn hbk hak
    rw [his] at HI1
    rw [← hsym, his] at HI2
    replace HI1 := hid HI1
    replace HI2 := hid HI2
    have HR1 := fun (y : World) (hy : Grew w y) => HRD.out a y hy hak
    have HFIN := hid (fun (q : Nat) (h : readsB M sB a = true) (h1 : oneB M (reachL M) a (reachL M).length = true) (hq : q ∈ reachL M) => reads_commute hM hsB (b := b) hbk h h1 hq)
    have HLT := hid (fun (i : Nat) (hi : i < (reachL M).length) => show nthN (reachL M) i < M.n ∧ nthN (reachL M) i ∈ reachL M from by
      have hmem : nthN (reachL M) i ∈ reachL M := by rw [nthN_lt hi]; exact List.getElem_mem hi
      obtain ⟨v, hv, he⟩ := (mem_reachL hM).1 hmem
      exact ⟨by rw [← he]; exact stM_lt hM hM.n1 hv, hmem⟩)
    obtain ⟨xs, hxs⟩ : ∃ xs, reachL M = xs := ⟨_, rfl⟩
    rw [hxs] at HRE HFIN HLT
    have HXS := hid hxs
    obtain ⟨rd, hrd⟩ : ∃ rd, readsB M sB a = rd := ⟨_, rfl⟩
    rw [hrd] at HR1 HFIN
    replace HR1 := hid HR1
    clear hsB hsym his hrd hxs t1 t2 HRD
    go_enter Try.func14, Try.ntmps14
    go_wp2_with (first
      | (go_at_call 16; with_reducible refine (HLO.out _ (grew_trans g0 hg)).mono ?_; rintro e w1 ⟨x1, rfl, hx1, hx⟩; replace hg := grew_trans hg hx; have hc := (bcell hg).1; clear hx; rcases hx1 with rfl | rfl)
      | (go_at_call 33; with_reducible refine (HRV.out _ (grew_trans g0 hg)).mono ?_; rintro e w2 ⟨rfl, hx⟩; replace hg := grew_trans hg hx; have hc := (bcell hg).1; clear hx)
      | (go_at_call 17; with_reducible refine (awake_any _).mono ?_; rintro e w6 ⟨rfl, hx6⟩))
    · go_ret
      exact ⟨rfl, grew_trans (grew_trans g0 hg) hx6⟩
    all_goals go_region
    obtain ⟨wd, hwd⟩ : ∃ wd, w2.drew = wd := ⟨_, rfl⟩
    have hgd := grew_drew hg
    rw [hwd] at hgd ⊢
    replace hg := hgd
    have hc := (bcell hg).1
    clear hgd hwd
    go_wp2_with (first
      | (go_at_call 41; with_reducible refine (HI1.out _ (grew_trans g0 hg)).mono ?_; rintro e w3 ⟨rfl, hx⟩; replace hg := grew_trans hg hx; have hc := (bcell hg).1; clear hx)
      | (go_at_call 41; with_reducible refine (HI2.out _ (grew_trans g0 hg)).mono ?_; rintro e w4 ⟨rfl, hx⟩; replace hg := grew_trans hg hx; have hc := (bcell hg).1; clear hx)
      | (go_at_call 48; with_reducible refine (HR1.out _ (grew_trans g0 hg)).mono ?_; rintro e w5 ⟨rfl, hx⟩; replace hg := grew_trans hg hx; have hc := (bcell hg).1; clear hx)
      | (go_at_call 44; with_reducible refine (HRE.out _ (grew_trans g0 hg)).mono ?_; rintro e w7 ⟨u4, rfl, hnat4, hx⟩; replace hg := grew_trans hg hx; have hc := (bcell hg).1; clear hx; obtain ⟨a4, c4, rfl⟩ := nats_shape' hnat4; have HNAT4 := hid hnat4; clear hnat4))
    have h0 := grew_trans g0 hg
    have hge := hg
    go_loopg [20, 104] xs.length (fun g f i wr => ∃ k : Nat, k ≤ xs.length ∧ i = .int .i64 k ∧ f = .bool (oneB M xs a k) ∧ Hid (g = xs.length - k) ∧ Grew w7 wr)
    case atStart => exact ⟨0, Nat.zero_le _, rfl, rfl, hid rfl, grew_refl _⟩
    case round =>
      clear hc
      obtain ⟨k, hk, rfl, rfl, HG, hgr⟩ := hrel
      have hgg := grew_trans hg hgr
      have hc := (bcell hgg).1
      have hzz := Nat.lt_of_lt_of_le hz hgg.size
      by_cases hlt : k < xs.length
      · obtain ⟨_, _, hve, _, hcx⟩ := HNAT4.out
        simp only [Value.slice.injEq, true_and] at hve
        obtain ⟨rfl, rfl⟩ := hve
        obtain ⟨b', off', o, rfl, hb', _, hcx⟩ := hcx k hlt
        replace hcx : wr.cell? ⟨b', off' + k, none⟩ = some (.int .i64 ((nthN xs k : Nat) : Int)) := (hgr.cell (p := ⟨b', off' + k, none⟩) (lt_of_obj hb')).trans hcx
        have hql := (HLT.out k hlt).1
        have hone := oneB_succ (M := M) (a := a) hlt
        obtain ⟨q, hq⟩ : ∃ q, nthN xs k = q := ⟨_, rfl⟩
        rw [hq] at hcx hql hone
        have HONE := hid hone
        have T2r := T2.out.grew (grew_trans g0 hgg)
        obtain ⟨e1, e2, e3, s1, s2, s3⟩ := T2r.2 q hql
        obtain ⟨d1, d2, d3, r1, r2, r3⟩ := T2r.2 0 n1
        replace s3 := s3 a hak
        replace r3 := r3 a hak
        rw [Nat.add_zero] at r1
        have hbb := T2r.1
        clear T2r hq hone hb'
        cases hb2 : oneB M xs a k
        all_goals
          rw [hb2] at HONE
          go_wp2
          go_region
          go_wp2
          go_roundg (xs.length - (k + 1))
          case measure => have := HG.out; omega
          case rel => exact ⟨k + 1, by omega, by go_num, by rw [HONE.out]; rfl, hid rfl, grew_drew hgr⟩
      · obtain rfl : k = xs.length := by omega
        obtain ⟨one, hone⟩ : ∃ one, oneB M xs a xs.length = one := ⟨_, rfl⟩
        rw [hone]
        have hne : rd = true → one = true → ∀ i, i < xs.length → commuteB M sB (nthN xs i) a b = true := fun h1 h2 i hi =>
          HFIN.out _ h1 (hone.trans h2) (HLT.out i hi).2
        have HNE := hid hne
        clear hne hone
        obtain ⟨wf, rfl⟩ : ∃ wf : World, wf = wr := ⟨_, rfl⟩
        go_wp2
        clear hc hzz
        go_loopg [138] xs.length (fun g i wr => ∃ k : Nat, k ≤ xs.length ∧ i = .int .i64 k ∧ Hid (g = xs.length - k) ∧ Grew w7 wr)
        case atStart => exact ⟨0, Nat.zero_le _, rfl, hid rfl, hgr⟩
        case round =>
          clear hgg hgr
          obtain ⟨k, hk, rfl, HG, hgr⟩ := hrel
          have hgg := grew_trans hg hgr
          have hc := (bcell hgg).1
          have hzz := Nat.lt_of_lt_of_le hz hgg.size
          by_cases hlt : k < xs.length
          · obtain ⟨_, _, hve, _, hcx⟩ := HNAT4.out
            simp only [Value.slice.injEq, true_and] at hve
            obtain ⟨rfl, rfl⟩ := hve
            obtain ⟨b', off', o, rfl, hb', _, hcx⟩ := hcx k hlt
            replace hcx : wr.cell? ⟨b', off' + k, none⟩ = some (.int .i64 ((nthN xs k : Nat) : Int)) := (hgr.cell (p := ⟨b', off' + k, none⟩) (lt_of_obj hb')).trans hcx
            have hql := (HLT.out k hlt).1
            have hdo := fun h1 h2 => HNE.out h1 h2 k hlt
            obtain ⟨q, hq⟩ : ∃ q, nthN xs k = q := ⟨_, rfl⟩
            rw [hq] at hcx hql hdo
            have HQ := fun (y : World) (hy : Grew w y) => HCM.out q a b y hy hql hak hbk
            obtain ⟨v, hv⟩ : ∃ v, commuteB M sB q a b = v := ⟨_, rfl⟩
            rw [hv] at HQ hdo
            replace HQ := hid HQ
            clear hq hb' hv
            cases rd <;> cases one <;> cases v <;> first | exact absurd (hdo rfl rfl) (by decide) | skip
            all_goals
              clear hdo
              go_wp2_with (go_at_call 41; with_reducible refine (HQ.out _ (grew_trans g0 hgg)).mono ?_; rintro e w8 ⟨rfl, hx⟩; replace hgr := grew_trans hgr hx)
              go_roundg (xs.length - (k + 1))
              case measure => have := HG.out; omega
              case rel => exact ⟨k + 1, by omega, by go_num, hid rfl, hgr⟩
          · obtain rfl : k = xs.length := by omega
            go_wp2_with (first
              | (go_at_call 50; (with_reducible refine (HMD.out _ (grew_trans g0 hgg)).mono ?_); rintro e w9 ⟨q, c, d, ev, rfl, hmed, hx⟩; have hp := hmed.parts hM; clear hmed; replace hgg := grew_trans hgg hx; have hc := (bcell hgg).1; have hzz := Nat.lt_of_lt_of_le hz hgg.size; clear hx
                 rcases hp with ⟨rfl, z, x, y, rfl, rfl, rfl, hz1, hx1, hy1, hxy, hb1, hb2, hb3⟩ | rfl
                 all_goals first
                   | (have HC1 := fun (u : World) (hu : Grew w u) => HCM.out z x y u hu hz1 hx1 hy1
                      have HO1 := fun (u : World) (hu : Grew w u) => HOV.out z x y u hu hz1 hx1 hy1
                      have HO2 := fun (u : World) (hu : Grew w u) => HOV.out z y x u hu hz1 hy1 hx1
                      rw [hb1] at HC1
                      rw [hb2] at HO1
                      rw [hb3] at HO2
                      replace HC1 := hid HC1; replace HO1 := hid HO1; replace HO2 := hid HO2
                      clear hb1 hb2 hb3)
                   | skip)
              | (go_at_call 41; (with_reducible refine (HC1.out _ (grew_trans g0 hgg)).mono ?_); rintro e w10 ⟨rfl, hx⟩; replace hgg := grew_trans hgg hx; have hc := (bcell hgg).1; have hzz := Nat.lt_of_lt_of_le hz hgg.size; clear hx)
              | (go_at_call 46; (with_reducible refine (HO1.out _ (grew_trans g0 hgg)).mono ?_); rintro e w11 ⟨rfl, hx⟩; replace hgg := grew_trans hgg hx; have hc := (bcell hgg).1; have hzz := Nat.lt_of_lt_of_le hz hgg.size; clear hx)
              | (go_at_call 46; (with_reducible refine (HO2.out _ (grew_trans g0 hgg)).mono ?_); rintro e w12 ⟨rfl, hx⟩; replace hgg := grew_trans hgg hx; have hc := (bcell hgg).1; have hzz := Nat.lt_of_lt_of_le hz hgg.size; clear hx)
              | (go_at_call 17; (with_reducible refine (awake_any _).mono ?_); rintro e w6 ⟨rfl, hx6⟩))
            all_goals
              go_ret
              exact ⟨rfl, grew_trans (grew_trans g0 hgg) hx6⟩
end Go.Proofs.Ytnebpcpihldllaa
