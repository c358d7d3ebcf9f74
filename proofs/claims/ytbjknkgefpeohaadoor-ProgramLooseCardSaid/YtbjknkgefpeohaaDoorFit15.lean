/- Contract of Fit of layer 15: of a raw deed, a right one. Conditions: a deed's numbers are of 64 bits. -/
import Derived.Test.YtbjknkgefpeohaaDoorPick
namespace Go.Proofs.YtbjknkgefpeohaaDoor
open Go.RowKit
set_option maxRecDepth 100000
attribute [local go_sem ↓] Go.wp_at_zero Go.wp_at_succ

def fitB (d : PDeed) (k : Int) : Int := if k = 3 ∨ k = 9 ∨ k = 11 ∨ k = 12 ∨ k = 4 ∨ k = 5 then pickZ d.b 6 else 0
def fitI (d : PDeed) (k : Int) : Int := if k = 1 ∨ k = 2 then pickZ d.i 5 else if k = 4 ∨ k = 5 ∨ k = 6 ∨ k = 7 then pickZ d.i 8 else 0
def fitN (d : PDeed) (k : Int) : Int := if k = 1 ∨ k = 2 then pickZ d.n 5 else if k = 7 then pickZ d.n 2000001 - 1000000 else 0
/-- Of a raw deed, a right one. -/
def fitP (d : PDeed) : PDeed := ⟨1 + pickZ d.kind 14, if 1 + pickZ d.kind 14 = 14 then 0 else pickZ d.a 6, fitB d (1 + pickZ d.kind 14), fitI d (1 + pickZ d.kind 14), fitN d (1 + pickZ d.kind 14)⟩
def PDeed.i64 (d : PDeed) : Prop := I64 d.kind ∧ I64 d.a ∧ I64 d.b ∧ I64 d.i ∧ I64 d.n

set_option maxHeartbeats 4000000 in
theorem fit_15 (d : PDeed) (hd : d.i64) (w : World) :
    Calls Tryd.prog 10 #[.agg #[.int .i64 d.kind, .int .i64 d.a, .int .i64 d.b, .int .i64 d.i, .int .i64 d.n]] w
      fun e w' => e = .returned (.agg #[.int .i64 (fitP d).kind, .int .i64 (fitP d).a, .int .i64 (fitP d).b, .int .i64 (fitP d).i, .int .i64 (fitP d).n]) ∧ Fr No w w' := by
  obtain ⟨hk, ha, hb, hi, hn⟩ := hd
  have pk := fun W => pick_15 d.kind 14 hk (by decide) (by decide) W
  have pa := fun W => pick_15 d.a 6 ha (by decide) (by decide) W
  have pb := fun W => pick_15 d.b 6 hb (by decide) (by decide) W
  have p5 := fun W => pick_15 d.i 5 hi (by decide) (by decide) W
  have p8 := fun W => pick_15 d.i 8 hi (by decide) (by decide) W
  have q5 := fun W => pick_15 d.n 5 hn (by decide) (by decide) W
  have qn := fun W => pick_15 d.n 2000001 hn (by decide) (by decide) W
  have bd := pickZ_bd d.n 2000001 (by decide)
  have Pk := Lib.hid pk
  have Pa := Lib.hid pa
  have Pb := Lib.hid pb
  have P5 := Lib.hid p5
  have P8 := Lib.hid p8
  have Q5 := Lib.hid q5
  have Qn := Lib.hid qn
  have hK : ∃ k, 1 + pickZ d.kind 14 = k ∧ (k = 1 ∨ k = 2 ∨ k = 3 ∨ k = 4 ∨ k = 5 ∨ k = 6 ∨ k = 7 ∨ k = 8 ∨ k = 9 ∨ k = 10 ∨ k = 11 ∨ k = 12 ∨ k = 13 ∨ k = 14) := ⟨_, rfl, by have := pickZ_bd d.kind 14 (by decide); omega⟩
  obtain ⟨k, hk1, hk2⟩ := hK
  have hF : ∀ v, v = (.agg #[.int .i64 k, .int .i64 (if k = 14 then 0 else pickZ d.a 6), .int .i64 (fitB d k), .int .i64 (fitI d k), .int .i64 (fitN d k)]) → Ending.returned v = .returned (.agg #[.int .i64 (fitP d).kind, .int .i64 (fitP d).a, .int .i64 (fitP d).b, .int .i64 (fitP d).i, .int .i64 (fitP d).n]) := fun v hv => by
    subst hk1; rw [hv]; rfl
  have HF := Lib.hid hF
  have hz : 1 + pickZ d.kind 14 = k := hk1
  clear pk pa pb p5 p8 q5 qn hF hk ha hb hi hn
  generalize fitP d = fd at *
  generalize pickZ d.kind 14 = zk at *
  have hzk : zk = k - 1 := by omega
  clear hk1 hz
  subst hzk
  rcases hk2 with rfl | rfl | rfl | rfl | rfl | rfl | rfl | rfl | rfl | rfl | rfl | rfl | rfl | rfl <;> unfold fitB fitI fitN at HF
  all_goals
    generalize pickZ d.a 6 = va at *
    generalize pickZ d.b 6 = vb at *
    generalize pickZ d.i 5 = v5 at *
    generalize pickZ d.i 8 = v8 at *
    generalize pickZ d.n 5 = u5 at *
    generalize pickZ d.n 2000001 = un at *
    generalize d.kind = dk at *
    generalize d.a = da at *
    generalize d.b = db at *
    generalize d.i = di at *
    generalize d.n = dn at *
    go_enter Tryd.func10, Tryd.ntmps10
    go_wp2_with (go_at_call 17; first | (with_reducible refine (Pk.out _).mono ?_; rintro e w1 ⟨rfl, rfl⟩) | (with_reducible refine (Pa.out _).mono ?_; rintro e w1 ⟨rfl, rfl⟩) | (with_reducible refine (Pb.out _).mono ?_; rintro e w1 ⟨rfl, rfl⟩) | (with_reducible refine (P5.out _).mono ?_; rintro e w1 ⟨rfl, rfl⟩) | (with_reducible refine (P8.out _).mono ?_; rintro e w1 ⟨rfl, rfl⟩) | (with_reducible refine (Q5.out _).mono ?_; rintro e w1 ⟨rfl, rfl⟩) | (with_reducible refine (Qn.out _).mono ?_; rintro e w1 ⟨rfl, rfl⟩))
    refine bodyPost_ret (results_whole Tryd.results10 rfl ((Whole.new1 _ _ _ _).alloc _) Tryd.underlying23 rfl (by kernel_rfl)) rfl ?_
    exact ⟨HF.out _ (by simp), (((Fr.refl _ _).alloc _).alloc _).alloc _⟩
end Go.Proofs.YtbjknkgefpeohaaDoor
