/- Projection, of the reference (42). -/
import Derived.Test.YtddnpooffcjhnaaWvProj
namespace Go.Proofs.Ytddnpooffcjhnaa
open Go.RowKit Go.Lin Go.Lin.Wv

set_option maxHeartbeats 4000000 in
set_option maxRecDepth 20000 in
theorem rProj42_any (v : Value) (L : Lt) (uv : Value) (x : List Int) (a b : Int) (w : World) (hv : IsLt w v L) (hx : IsWd w uv x) :
    Calls Try.prog 42 #[v, uv, .int .i64 a, .int .i64 b] w fun e w' => Gives e w w' (projM L x a b) := by
  have HLA := hid (fun (W : World) (hW : Grew w W) => isL_any v L a W (hv.grew hW))
  have HLB := hid (fun (W : World) (hW : Grew w W) => isL_any v L b W (hv.grew hW))
  have HV := hid hv
  obtain ⟨s, hveq, -⟩ := id hv
  subst hveq
  obtain ⟨ua, uc, rfl⟩ := isWd_slice hx
  obtain ⟨W0, hW0, g0, k0, k1, hz⟩ := box2 w (.int .i64 L.n) s 24
  have hask := asked_any _ L _ (.slice none 0 0) x [] W0 (hv.grew g0) (hx.grew g0).ints (Reads.nil _ _ _ _ _)
  rw [wrong_nil] at hask
  obtain ⟨m, hm⟩ : ∃ m, x.length = m := ⟨_, rfl⟩
  have HM := hid hm
  have hints := hx.ints
  obtain ⟨va, vc, hveq, hmm, hcc⟩ := hints
  obtain ⟨rfl, rfl⟩ : ua = va ∧ uc = vc := by simp at hveq; exact ⟨hveq.1, hveq.2⟩
  rw [hm] at hmm hcc
  have HCC := hid hcc
  clear hveq hcc
  obtain ⟨r, hr⟩ : ∃ r, wrong L [x] = r := ⟨_, rfl⟩
  rw [hr, hm] at hask
  have HASK := hid hask
  have hg := grew_refl W0
  by_cases hr0 : r = 0
  · subst hr0
    obtain ⟨hv1, hw1⟩ := wrong_one hr
    have hem : projM L x a b = if isL L a && isL L b then (kept (qP a b) x, 0) else ([], 2) := by unfold projM; rw [if_pos hr]
    have hl10 : x.length ≤ 10 := by unfold isW at hw1; simp at hw1; exact hw1.1
    rw [hm] at hl10 ⊢
    obtain ⟨la, hla⟩ : ∃ r, isL L a = r := ⟨_, rfl⟩
    obtain ⟨lb, hlb⟩ : ∃ r, isL L b = r := ⟨_, rfl⟩
    rw [hla] at HLA; rw [hlb] at HLB
    rw [hla, hlb] at hem
    have HEM := hid hem
    clear hr hx hm hv1 hw1 hem hask hv hla hlb
    by_cases hab : la = true ∧ lb = true
    · obtain ⟨rfl, rfl⟩ := hab
      go_enter Try.func42, Try.ntmps42
      go_wp2_with (first
        | (go_at_call 64; (with_reducible refine HASK.out.mono ?_); rintro e w1 ⟨rfl, hx⟩; replace hg := grew_trans hg hx; have hc := (bcell hg).1; clear hx)
        | (go_at_call 79; (with_reducible refine (HLA.out _ (grew_trans g0 hg)).mono ?_); rintro e w2 ⟨rfl, hx⟩; replace hg := grew_trans hg hx; replace hc := (bcell hg).1; clear hx)
        | (go_at_call 79; (with_reducible refine (HLB.out _ (grew_trans g0 hg)).mono ?_); rintro e w3 ⟨rfl, hx⟩; replace hg := grew_trans hg hx; replace hc := (bcell hg).1; clear hx))
      go_loopg [11, 13, 32] m (fun k out _ i wr => ∃ (j c : Nat), j ≤ m ∧ i = .int .i64 j ∧ k = m - j ∧ c ≤ j ∧ Hid (c = (kept (qP a b) (x.take j)).length) ∧ Hid (Seg wr w3.heap.size 3 1 out c ((kept (qP a b) (x.take j)).map (.int .i64))) ∧ Hid (Grew w3 wr))
      case atStart => exact ⟨0, 0, by omega, rfl, rfl, by omega, hid rfl, hid (Seg.nil _ _ _ _), hid (grew_refl _)⟩
      case round =>
        obtain ⟨j, c, hj, rfl, hk, hcj, HCL, HSG, HG⟩ := hrel
        have HK := hid hk; clear hk
        rename World => wr
        by_cases hlt : j < m
        · obtain ⟨bb, off, o, rfl, hob, -, hcj0⟩ := HCC.out j hlt
          have hbl := lt_of_obj hob
          have hgw := grew_trans (grew_trans g0 hg) HG.out
          have hcj1 := (hgw.cell (p := ⟨bb, off + j, none⟩) hbl).trans hcj0
          have hbl1 := Nat.lt_of_lt_of_le hbl hgw.size
          have hjx : j < x.length := by rw [HM.out]; exact hlt
          have hks := kept_snoc (qP a b) (x.take j) (nth x j)
          rw [← take_succ_nth hjx] at hks
          obtain ⟨y, hy⟩ : ∃ y, nth x j = y := ⟨_, rfl⟩
          rw [hy] at hks
          simp only [hy] at hcj1
          have hqe : qP a b y = (!(y == a) && !(y == b)) := by unfold qP; rfl
          obtain ⟨p1, hp1⟩ : ∃ p, (y == a) = p := ⟨_, rfl⟩
          obtain ⟨p2, hp2⟩ : ∃ p, (y == b) = p := ⟨_, rfl⟩
          rw [hp1, hp2] at hqe
          rw [hqe] at hks
          have HKS := hid hks
          have hsz3 := HG.out.size
          clear hob hcj0 hgw hjx hks hy hqe hc
          obtain ⟨vs, hvs⟩ : ∃ vs, (kept (qP a b) (x.take j)).map (Value.int .i64) = vs := ⟨_, rfl⟩
          have HVS := hid hvs
          rw [hvs] at HSG
          have hseg := HSG.out
          have hcb : c < 1000000000 := by omega
          clear hvs
          cases p1 <;> cases p2
          · go_wp2
            go_roundg (m - (j + 1))
            case measure => have := HK.out; omega
            case rel => exact ⟨j + 1, c, by omega, by go_num, rfl, by omega, hid (by rw [HKS.out]; exact HCL.out), hid (by rw [HKS.out, show (if (!false && !false) = true then kept (qP a b) (x.take j) else kept (qP a b) (x.take j) ++ [y]) = kept (qP a b) (x.take j) from rfl, HVS.out]; exact HSG.out), HG⟩
          all_goals
            go_wp2_with (at_builtin; go_loud (refine wpList_append_one rfl _ _ 25 rfl w3.heap.size 3 Try.underlying25 Try.info3 rfl (by decide) _ c _ rfl (hseg.alloc _) _ _ _ rfl (one_new _ _ _) rfl hcb ?_ ?_); (simp only [World.size_alloc]; omega); intro v9 w9 hown9 hgrow9 hblk9; have HOWN := hid hown9; have hk9 := ((Keeps.refl (fun k _ => u11.ownBlock = some k) wr).alloc (.cells #[.int .i64 y] 3)).trans (keeps_of_grown hgrow9); have hb9 : Below w3.heap.size wr w9 := hk9.below hsz3 (fun k o e => (hseg.own k e).1); have HW9 := hid (show Grew w3 w9 from HG.out.trans hb9); clear hgrow9 hblk9 hown9 hk9 hb9)
            clear hseg
            go_roundg (m - (j + 1))
            case measure => have := HK.out; omega
            case rel =>
              refine ⟨j + 1, c + 1, by omega, by go_num, rfl, by omega, hid ?_, hid ?_, HW9⟩
              · rw [HKS.out, HCL.out]; simp
              · rw [HKS.out, if_neg (by simp), List.map_append, HVS.out]; exact HOWN.out
        · obtain rfl : m = j := by omega
          have hgw := grew_trans (grew_trans g0 hg) HG.out
          have htk : x.take m = x := List.take_of_length_le (by rw [HM.out]; exact Nat.le_refl _)
          have hsg := HSG.out
          have hcl := HCL.out
          rw [htk] at hsg hcl
          have HS := hid hsg; have HC := hid hcl
          clear hsg hcl htk
          go_wp2
          go_ret2
          exact ⟨_, by rw [HEM.out]; rfl, by rw [HEM.out]; exact wd_seg HS.out HC.out.symm, hgw⟩
    · have hm2 : projM L x a b = ([], 2) := by rw [HEM.out]; cases la <;> cases lb <;> simp_all
      replace HEM := hid hm2
      clear hm2
      cases la <;> cases lb <;> first | exact absurd ⟨rfl, rfl⟩ hab | skip
      all_goals
        clear hab
        go_enter Try.func42, Try.ntmps42
        go_wp2_with (first
          | (go_at_call 64; (with_reducible refine HASK.out.mono ?_); rintro e w1 ⟨rfl, hx⟩; replace hg := grew_trans hg hx; have hc := (bcell hg).1; clear hx)
          | (go_at_call 79; (with_reducible refine (HLA.out _ (grew_trans g0 hg)).mono ?_); rintro e w2 ⟨rfl, hx⟩; replace hg := grew_trans hg hx; replace hc := (bcell hg).1; clear hx)
          | (go_at_call 79; (with_reducible refine (HLB.out _ (grew_trans g0 hg)).mono ?_); rintro e w3 ⟨rfl, hx⟩; replace hg := grew_trans hg hx; replace hc := (bcell hg).1; clear hx))
        go_ret2
        exact ⟨_, by rw [HEM.out]; rfl, by rw [HEM.out]; exact wd_nil _, grew_trans g0 hg⟩
  · have hne : (r != 0) = true := by simpa using hr0
    have HEM := hid (show projM L x a b = ([], r) by unfold projM; rw [hr, if_neg hr0])
    rw [hm]
    clear hr hx hm hr0 hask hv
    go_enter Try.func42, Try.ntmps42
    go_wp2_with (go_at_call 64; (with_reducible refine HASK.out.mono ?_); rintro e w1 ⟨rfl, hx⟩; replace hg := grew_trans hg hx; clear hx)
    go_ret2
    exact ⟨_, by rw [HEM.out]; rfl, by rw [HEM.out]; exact wd_nil _, grew_trans g0 hg⟩

end Go.Proofs.Ytddnpooffcjhnaa
