/- Walks: newClaim (88) and its functions (95 to 98), asked (58). -/
import Derived.Test.YtojkohpniokaaaaPgWay
namespace Go.Proofs.Ytojkohpniokaaaa
open Go Go.RowKit Go.Lin Go.Lin.Pg

theorem open95_any (m : Mv) (w : World) : Calls Try.prog 95 #[encM m] w fun e w' => e = .returned (.bool (!dn m)) ∧ Grew w w' := by
  obtain ⟨W1, hW1, g1, hb1⟩ := box4v w m
  have h3 := hb1.c3
  obtain ⟨a, b, c, d⟩ := m
  simp only at h3 hW1
  clear hb1
  unfold encM
  cases d <;> (
    go_enter Try.func95, Try.ntmps95
    go_wp2
    go_ret
    exact ⟨rfl, g1⟩)

theorem own96_any (m : Mv) (B : Nat) (t : Int) (w : World) (hB : w.cell? ⟨B, 0, none⟩ = some (.int .i64 t)) : Calls Try.prog 96 #[encM m, .pointer (some ⟨B, 0, none⟩)] w fun e w' => e = .returned (.bool (th m == t)) ∧ Grew w w' := by
  obtain ⟨W1, hW1, g1, hb1⟩ := box4v w m
  have h1 := hb1.c1
  have hb := World.block_lt_of_cell? _ _ hB
  have h2 := (g1.cell (p := ⟨B, 0, none⟩) hb).trans hB
  obtain ⟨a, b, c, d⟩ := m
  simp only at h1 hW1
  clear hb1
  unfold encM
  by_cases hbt : b = t
  · subst hbt
    have he : (th (a, b, c, d) == b) = true := by simp
    rw [he]
    go_enter Try.func96, Try.ntmps96
    go_wp2
    go_ret
    exact ⟨rfl, g1⟩
  · have he : (th (a, b, c, d) == t) = false := by simpa using hbt
    rw [he]
    go_enter Try.func96, Try.ntmps96
    go_wp2
    go_ret
    exact ⟨rfl, g1⟩

/-- The two boxes of the claim's functions. -/
structure TwoFn (w : World) (Bo Bp Bt : Nat) (t : Int) : Prop where
  own : w.cell? ⟨Bo, 0, none⟩ = some (.func (.func 96) #[] #[.pointer (some ⟨Bt, 0, none⟩)])
  opn : w.cell? ⟨Bp, 0, none⟩ = some (.func (.func 95) #[] #[])
  thr : w.cell? ⟨Bt, 0, none⟩ = some (.int .i64 t)

theorem TwoFn.grew {w w' : World} {Bo Bp Bt : Nat} {t : Int} (h : TwoFn w Bo Bp Bt t) (hg : Grew w w') : TwoFn w' Bo Bp Bt t :=
  ⟨(hg.cell (p := ⟨Bo, 0, none⟩) (World.block_lt_of_cell? _ _ h.own)).trans h.own, (hg.cell (p := ⟨Bp, 0, none⟩) (World.block_lt_of_cell? _ _ h.opn)).trans h.opn, (hg.cell (p := ⟨Bt, 0, none⟩) (World.block_lt_of_cell? _ _ h.thr)).trans h.thr⟩

theorem both97_any (m : Mv) (Bo Bp Bt : Nat) (t : Int) (w : World) (h : TwoFn w Bo Bp Bt t) : Calls Try.prog 97 #[encM m, .pointer (some ⟨Bo, 0, none⟩), .pointer (some ⟨Bp, 0, none⟩)] w fun e w' => e = .returned (.bool ((th m == t) && !dn m)) ∧ Grew w w' := by
  obtain ⟨W1, hW1, g1, hb1⟩ := box4v w m
  have h0 := hb1.c0
  have h1 := hb1.c1
  have h2 := hb1.c2
  have h3 := hb1.c3
  have hT := h.grew g1
  have k0 := hT.own
  have k1 := hT.opn
  have kl := World.block_lt_of_cell? _ _ k1
  have hlt := hb1.lt
  have HO := hid (fun m => own96_any m Bt t W1 hT.thr)
  have HN := hid (fun m W => open95_any m W)
  obtain ⟨p, hp⟩ : ∃ p, (th m == t) = p := ⟨_, rfl⟩
  obtain ⟨q, hq⟩ : ∃ q, (!dn m) = q := ⟨_, rfl⟩
  rw [hp, hq]
  have HP := hid hp; have HQ := hid hq
  obtain ⟨a, b, c, d⟩ := m
  simp only [Nat.zero_add] at h0 h1 h2 h3 hW1 kl
  clear hb1 hT hp hq
  unfold encM at *
  cases p
  · go_enter Try.func97, Try.ntmps97
    go_wp2_with (go_at_call 96; (with_reducible refine (HO.out (a, b, c, d)).mono ?_); rintro e w1 ⟨rfl, hx⟩; rw [HP.out])
    go_ret
    exact ⟨by simp, grew_trans g1 hx⟩
  · go_enter Try.func97, Try.ntmps97
    go_wp2_with (first
      | (go_at_call 96; (with_reducible refine (HO.out (a, b, c, d)).mono ?_); rintro e w1 ⟨rfl, hx⟩; rw [HP.out]; have l0 := (hx.cell (p := ⟨w.heap.size, 0, none⟩) hlt).trans h0; have l1 := (hx.cell (p := ⟨w.heap.size, 1, none⟩) hlt).trans h1; have l2 := (hx.cell (p := ⟨w.heap.size, 2, none⟩) hlt).trans h2; have l3 := (hx.cell (p := ⟨w.heap.size, 3, none⟩) hlt).trans h3; have lk := (hx.cell (p := ⟨Bp, 0, none⟩) kl).trans k1; have hlt1 := Nat.lt_of_lt_of_le hlt hx.size)
      | (go_at_call 95; (with_reducible refine (HN.out (a, b, c, d) _).mono ?_); rintro e w2 ⟨rfl, hy⟩; rw [HQ.out]))
    go_ret
    exact ⟨by simp, grew_trans g1 (grew_trans hx hy)⟩

theorem waits98_any (m : Mv) (Bo Bp Bt : Nat) (t : Int) (w : World) (h : TwoFn w Bo Bp Bt t) : Calls Try.prog 98 #[encM m, .pointer (some ⟨Bo, 0, none⟩), .pointer (some ⟨Bp, 0, none⟩)] w fun e w' => e = .returned (.bool (!(th m == t) || !dn m)) ∧ Grew w w' := by
  obtain ⟨W1, hW1, g1, hb1⟩ := box4v w m
  have h0 := hb1.c0
  have h1 := hb1.c1
  have h2 := hb1.c2
  have h3 := hb1.c3
  have hT := h.grew g1
  have k0 := hT.own
  have k1 := hT.opn
  have kl := World.block_lt_of_cell? _ _ k1
  have hlt := hb1.lt
  have HO := hid (fun m => own96_any m Bt t W1 hT.thr)
  have HN := hid (fun m W => open95_any m W)
  obtain ⟨p, hp⟩ : ∃ p, (th m == t) = p := ⟨_, rfl⟩
  obtain ⟨q, hq⟩ : ∃ q, (!dn m) = q := ⟨_, rfl⟩
  rw [hp, hq]
  have HP := hid hp; have HQ := hid hq
  obtain ⟨a, b, c, d⟩ := m
  simp only [Nat.zero_add] at h0 h1 h2 h3 hW1 kl
  clear hb1 hT hp hq
  unfold encM at *
  cases p
  · go_enter Try.func98, Try.ntmps98
    go_wp2_with (go_at_call 96; (with_reducible refine (HO.out (a, b, c, d)).mono ?_); rintro e w1 ⟨rfl, hx⟩; rw [HP.out])
    go_ret
    exact ⟨by simp, grew_trans g1 hx⟩
  · go_enter Try.func98, Try.ntmps98
    go_wp2_with (first
      | (go_at_call 96; (with_reducible refine (HO.out (a, b, c, d)).mono ?_); rintro e w1 ⟨rfl, hx⟩; rw [HP.out]; have l0 := (hx.cell (p := ⟨w.heap.size, 0, none⟩) hlt).trans h0; have l1 := (hx.cell (p := ⟨w.heap.size, 1, none⟩) hlt).trans h1; have l2 := (hx.cell (p := ⟨w.heap.size, 2, none⟩) hlt).trans h2; have l3 := (hx.cell (p := ⟨w.heap.size, 3, none⟩) hlt).trans h3; have lk := (hx.cell (p := ⟨Bp, 0, none⟩) kl).trans k1; have hlt1 := Nat.lt_of_lt_of_le hlt hx.size)
      | (go_at_call 95; (with_reducible refine (HN.out (a, b, c, d) _).mono ?_); rintro e w2 ⟨rfl, hy⟩; rw [HQ.out]))
    go_ret
    exact ⟨by simp, grew_trans g1 (grew_trans hx hy)⟩

theorem isFn_open (w : World) : IsFn w (.func (.func 95) #[] #[]) (fun m => !dn m) := ⟨95, #[], rfl, fun _ _ => by kernel_rfl, fun W _ m => open95_any m W⟩
theorem isFn_own {w : World} {B : Nat} {t : Int} (h : w.cell? ⟨B, 0, none⟩ = some (.int .i64 t)) : IsFn w (.func (.func 96) #[] #[.pointer (some ⟨B, 0, none⟩)]) (fun m => th m == t) :=
  ⟨96, _, rfl, fun _ _ => by kernel_rfl, fun W hW m => own96_any m B t W ((hW.cell (p := ⟨B, 0, none⟩) (World.block_lt_of_cell? _ _ h)).trans h)⟩
theorem isFn_both {w : World} {Bo Bp Bt : Nat} {t : Int} (h : TwoFn w Bo Bp Bt t) : IsFn w (.func (.func 97) #[] #[.pointer (some ⟨Bo, 0, none⟩), .pointer (some ⟨Bp, 0, none⟩)]) (fun m => (th m == t) && !dn m) :=
  ⟨97, _, rfl, fun _ _ => by kernel_rfl, fun W hW m => both97_any m Bo Bp Bt t W (h.grew hW)⟩
theorem isFn_waits {w : World} {Bo Bp Bt : Nat} {t : Int} (h : TwoFn w Bo Bp Bt t) : IsFn w (.func (.func 98) #[] #[.pointer (some ⟨Bo, 0, none⟩), .pointer (some ⟨Bp, 0, none⟩)]) (fun m => !(th m == t) || !dn m) :=
  ⟨98, _, rfl, fun _ _ => by kernel_rfl, fun W hW m => waits98_any m Bo Bp Bt t W (h.grew hW)⟩
end Go.Proofs.Ytojkohpniokaaaa
