/- What lays an object, or does something to a field, says that the deed is done. Conditions: registers and fields in their bounds, lists shorter than 2^40. -/
import Derived.Test.YtbjknkgefpeohaaDone
namespace Go.Proofs.Ytbjknkgefpeohaa
open Go.RowKit

theorem done_lay {g B : Nat} {x : DX} {o : RO} {w w' : World} {e : Ending} (h : St w g B x) (ho : o.own w B) (hoc : o.caps) (hog : g ∉ o.blocks) (hoA : ∀ k ∈ o.blocks, (Value.slice x.m.A x.m.ros.length x.m.c).ownBlock ≠ some k)
    (hq : Laid g B x o w e w') : DoneO g B (layP x.m.pure x.r x.d.a x.f o.o) w e w' := by
  rcases hq with ⟨hc, rfl, hf⟩ | ⟨h1, h2, rfl, A', c', hw, hown, hat, hf⟩
  · refine ⟨fr_no hf, .inl ⟨1, ?_, by decide, rfl⟩⟩
    unfold layP
    exact if_pos hc
  · refine ⟨hf.mono (fun k _ hk => ?_), .inr ⟨_, ?_, rfl, hw, ?_, ?_⟩⟩
    · rcases hk with rfl | hk
      · exact h.base
      · exact (h.own.own.objs.lt k (by simp [hk])).1
    · unfold layP
      rw [if_neg]
      · simp [RM.pure]
      · intro hh
        rcases hh with hh | ⟨p, hp, hs⟩
        · omega
        · exact h2 p hp hs
    · have hnd := h.own.own.objs.2.2
      rw [List.nodup_append] at hnd
      refine ⟨?_, ?_, ?_, ?_, h.own.nq⟩
      · have := Row.of_own hown
        dsimp only
        simpa using this
      · intro y hy
        dsimp only at hy
        rcases List.mem_append.1 hy with hy | hy
        · refine ((h.own.own.objs.2.1 y hy).fr hf ?_).ok (h.own.caps y hy)
          intro k hk e
          rcases e with rfl | e
          · exact h.apart (List.mem_append_right _ (List.mem_flatMap.2 ⟨y, hy, hk⟩))
          · exact hnd.2.2 k (by simp [e]) k (List.mem_flatMap.2 ⟨y, hy, hk⟩) rfl
        · rw [List.mem_singleton] at hy
          subst hy
          refine RO.own.ok (B := B) (ho.fr hf ?_) hoc
          intro k hk e
          rcases e with rfl | e
          · exact hog hk
          · exact hoA k hk e
      · exact Row.of_own (own_fr h.own.own.queue hf (fun k hk e => by
          rcases e with rfl | e
          · exact h.qapart hk
          · exact h.own.own.apart k (List.mem_append_left _ (by simp [e])) hk))
      · have := h.own.nobjs
        dsimp only
        simpa using this
    · refine ⟨fun a ha => ?_, fun r hr k hk => ?_, h.own.up.queue⟩
      · dsimp only at ha
        have hab : (Value.slice A' (x.m.ros.length + 1) c').ownBlock = some a.block := by rw [ha]; rfl
        rcases hat with e | ⟨j, hj, e⟩
        · rw [e] at hab
          exact (h.own.own.objs.lt _ (by simp [hab])).1
        · rw [e] at hab
          injection hab with hab
          have := h.hB
          omega
      · dsimp only at hr
        rcases List.mem_append.1 hr with hr | hr
        · exact h.own.up.lists r hr k hk
        · rw [List.mem_singleton] at hr
          subst hr
          exact (ho.lt k hk).1

theorem done_weak {g B : Nat} {x : DX} {w w' : World} {e : Ending} (h : St w g B x) (hq : Weaked g B x w e w') : DoneO g B (weakP x.m.pure x.r x.d.a x.f (x.r.getD x.d.b.toNat 0)) w e w' := by
  rcases hq with ⟨hc, rfl, hf⟩ | ⟨h0, h1, w1, k, hf, hk, hw, hq⟩
  · refine ⟨fr_no hf, .inl ⟨143, ?_, by decide, rfl⟩⟩
    unfold weakP RM.pure
    rw [if_pos hc]
  · have h2 : DoneO g B (layP x.m.pure x.r x.d.a x.f (weakO (x.r.getD x.d.b.toNat 0) k).o) w1 e w' := by
      have hgk : g ≠ k := by have := h.whole.lt; omega
      have hbk : B ≤ k := Nat.le_trans h.hB hk
      refine done_lay (h.no hf) ⟨⟨rfl, .inr ⟨k, 1, _, rfl, hbk, hw, Nat.le_refl _, by decide, rfl, rfl⟩⟩, ⟨rfl, .inl ⟨rfl, rfl⟩⟩⟩ ⟨by simp [weakO, Cap], by simp [weakO]⟩ ?_ ?_ hq
      · simp [RO.blocks, weakO, Value.ownBlock, hgk]
      · intro j hj e
        have hjk : j = k := by simpa [RO.blocks, weakO, Value.ownBlock] using hj
        subst hjk
        have := (h.own.own.objs.lt j (by simp [e])).2
        omega
    have e2 : weakP x.m.pure x.r x.d.a x.f (x.r.getD x.d.b.toNat 0) = layP x.m.pure x.r x.d.a x.f (weakO (x.r.getD x.d.b.toNat 0) k).o := by
      unfold weakP
      rw [if_neg]
      · rfl
      · intro hh
        rcases hh with hh | hh
        · exact h0 hh
        · exact h1 hh
    rw [e2]
    exact ⟨(fr_no hf).trans h2.1, h2.2⟩

theorem onE_ne {l : List PObj} {v : Int} {weak : Bool} {c : Int} (h : onE l v weak = .inl c) : c ≠ 0 := by
  unfold onE at h
  repeat' split at h
  all_goals first | (injection h with h; omega) | cases h

theorem done_field {g B : Nat} {x : DX} {reg : Int} {weak : Bool} {lenR : RO → Nat} {len : PObj → Nat} {R : Nat → RO → World → Prop} {k : Nat → PObj → PModel × List Int × Int} {w w' : World} {e : Ending}
    (hq : Fielded x reg weak lenR w R e w') (hlen : ∀ r, lenR r = len r.o)
    (hR : ∀ i r, x.m.ros[i]? = some r → x.d.i < len r.o → R i r w' → Fr (fun k => B ≤ k) w w' ∧ ∃ x' : DX, k i r.o = (x'.m.pure, x'.r, x'.t) ∧ Whole w' g 59 x'.cells ∧ x'.m.ok w' ∧ x'.m.up B) :
    DoneO g B (fieldP x.m.pure.objs (x.r.getD reg.toNat 0) weak x.d.i len k) w e w' := by
  rcases hq with ⟨c, hc, rfl, hf⟩ | ⟨i, r, hi, hr, n, rfl, hq⟩
  · refine ⟨fr_no hf, .inl ⟨c, ?_, onE_ne hc, rfl⟩⟩
    unfold fieldP RM.pure
    simp only [hc]
  · have hro : (x.m.ros.map RO.o)[i]? = some r.o := by simp [hr]
    rcases hq with ⟨h1, rfl, hf⟩ | ⟨h1, rfl, hq⟩
    · refine ⟨fr_no hf, .inl ⟨71, ?_, by decide, rfl⟩⟩
      unfold fieldP RM.pure
      simp only [hi, hro]
      rw [hlen] at h1
      exact if_pos h1
    · rw [hlen] at h1
      obtain ⟨hf, x', hx, hw, hok, hup⟩ := hR i r hr h1 hq
      refine ⟨hf, .inr ⟨x', ?_, rfl, hw, hok, hup⟩⟩
      unfold fieldP RM.pure
      simp only [hi, hro]
      rw [if_neg (by omega), hx]
      rfl

/-- A field is got. -/
def GetR (g : Nat) (x : DX) (w : World) (_ : Nat) (r : RO) (w' : World) : Prop :=
  ∃ v, r.o.ptrs[x.d.i.toNat]? = some v ∧ Whole w' g 59 (DX.cells { x with r := x.r.set x.d.a.toNat v, t := v }) ∧ Fr (Only g) w w'
theorem done_get {g B : Nat} {x : DX} {weak : Bool} {w w' : World} {e : Ending} (h : St w g B x) (hq : Fielded x x.d.b weak (fun r => r.o.ptrs.length) w (GetR g x w) e w') :
    DoneO g B (fieldP x.m.pure.objs (x.r.getD x.d.b.toNat 0) weak x.d.i (fun o => o.ptrs.length) fun _ o => (x.m.pure, x.r.set x.d.a.toNat (o.ptrs.getD x.d.i.toNat 0), o.ptrs.getD x.d.i.toNat 0)) w e w' := by
  refine done_field hq (fun _ => rfl) ?_
  rintro i r hr hi ⟨v, hv, hw, hf⟩
  have hm : x.m.Own w' B := h.own.far hf (fun k hk e => h.apart (by have e' : k = g := e; exact e' ▸ hk)) (fun k hk e => h.qapart (by have e' : k = g := e; exact e' ▸ hk))
  refine ⟨hf.mono (fun k _ hk => by have hk' : k = g := hk; have := h.base; omega), _, ?_, hw, hm.ok, hm.up⟩
  simp [List.getD_eq_getElem?_getD, hv]
/-- A number is read. -/
def ReadR (g : Nat) (x : DX) (w : World) (_ : Nat) (r : RO) (w' : World) : Prop :=
  ∃ v w1, r.o.nums[x.d.i.toNat]? = some v ∧ Fr No w w1 ∧ PutAt w1 w' g 15 (.int .i64 v)
theorem done_read {g B : Nat} {x : DX} {w w' : World} {e : Ending} (h : St w g B x) (hq : Fielded x x.d.a false (fun r => r.o.nums.length) w (ReadR g x w) e w') :
    DoneO g B (fieldP x.m.pure.objs (x.r.getD x.d.a.toNat 0) false x.d.i (fun o => o.nums.length) fun _ o => (x.m.pure, x.r, o.nums.getD x.d.i.toNat 0)) w e w' := by
  refine done_field hq (fun _ => rfl) ?_
  rintro i r hr hi ⟨v, w1, hv, hf1, hp⟩
  have hf : Fr (Only g) w w' := (fr_no hf1).trans hp.1
  have hm : x.m.Own w' B := h.own.far hf (fun k hk e => h.apart (by have e' : k = g := e; exact e' ▸ hk)) (fun k hk e => h.qapart (by have e' : k = g := e; exact e' ▸ hk))
  refine ⟨hf.mono (fun k _ hk => by have hk' : k = g := hk; have := h.base; omega), { x with t := v }, ?_, ?_, hm.ok, hm.up⟩
  · simp [List.getD_eq_getElem?_getD, hv]
  · have hw1 := hf1.whole h.whole (fun x => x)
    have := hw1.set 15 (.int .i64 v)
    rw [DX.set_told] at this
    exact this.congr hp.2
/-- A number is put, or written. -/
def PutR (len : RO → Nat) (L : RO → Value) (u : Int) (x : DX) (w : World) (_ : Nat) (r : RO) (w' : World) : Prop :=
  ∃ b o c w1, L r = .slice (some ⟨b, o, none⟩) (len r) c ∧ Fr No w w1 ∧ PutAt w1 w' b (o + x.d.i.toNat) (.int .i64 u)
theorem done_put {g B : Nat} {x : DX} {u : Int} {w w' : World} {e : Ending} (h : St w g B x) (h0 : 0 ≤ x.d.i) (hq : Fielded x x.d.a false (fun r => r.o.ptrs.length) w (PutR (fun r => r.o.ptrs.length) RO.P u x w) e w') :
    DoneO g B (fieldP x.m.pure.objs (x.r.getD x.d.a.toNat 0) false x.d.i (fun o => o.ptrs.length) fun j o => (⟨x.m.pure.objs.set j { o with ptrs := o.ptrs.set x.d.i.toNat u }, x.m.pure.queue⟩, x.r, 0)) w e w' := by
  refine done_field hq (fun _ => rfl) ?_
  rintro i r hr hi ⟨b, o, c, w1, hP, hf1, hp⟩
  have hb : b ∈ x.m.all := List.mem_append_right _ (List.mem_flatMap.2 ⟨r, List.mem_of_getElem? hr, by simp [RO.blocks, hP, Value.ownBlock]⟩)
  have hbB := (h.own.own.objs.lt b hb).1
  have hbg : g ≠ b := fun e => h.apart (e ▸ hb)
  refine ⟨(fr_no hf1).trans (hp.1.mono (fun k _ hk => by have hk' : k = b := hk; omega)), { x with m := { x.m with ros := x.m.ros.set i { r with o := { r.o with ptrs := r.o.ptrs.set x.d.i.toNat u } } } }, ?_, ?_, (h.own.no hf1).put_ptr hr hP (by omega) hp, h.own.up.put hr rfl⟩
  · simp [RM.pure, List.map_set, h.told]
  · have := hp.1.whole (hf1.whole h.whole (fun x => x)) (fun e => hbg e)
    simpa [DX.cells] using this
theorem done_write {g B : Nat} {x : DX} {u : Int} {w w' : World} {e : Ending} (h : St w g B x) (h0 : 0 ≤ x.d.i) (hq : Fielded x x.d.a false (fun r => r.o.nums.length) w (PutR (fun r => r.o.nums.length) RO.N u x w) e w') :
    DoneO g B (fieldP x.m.pure.objs (x.r.getD x.d.a.toNat 0) false x.d.i (fun o => o.nums.length) fun j o => (⟨x.m.pure.objs.set j { o with nums := o.nums.set x.d.i.toNat u }, x.m.pure.queue⟩, x.r, 0)) w e w' := by
  refine done_field hq (fun _ => rfl) ?_
  rintro i r hr hi ⟨b, o, c, w1, hP, hf1, hp⟩
  have hb : b ∈ x.m.all := List.mem_append_right _ (List.mem_flatMap.2 ⟨r, List.mem_of_getElem? hr, by simp [RO.blocks, hP, Value.ownBlock]⟩)
  have hbB := (h.own.own.objs.lt b hb).1
  have hbg : g ≠ b := fun e => h.apart (e ▸ hb)
  refine ⟨(fr_no hf1).trans (hp.1.mono (fun k _ hk => by have hk' : k = b := hk; omega)), { x with m := { x.m with ros := x.m.ros.set i { r with o := { r.o with nums := r.o.nums.set x.d.i.toNat u } } } }, ?_, ?_, (h.own.no hf1).put_num hr hP (by omega) hp, h.own.up.put hr rfl⟩
  · simp [RM.pure, List.map_set, h.told]
  · have := hp.1.whole (hf1.whole h.whole (fun x => x)) (fun e => hbg e)
    simpa [DX.cells] using this
end Go.Proofs.Ytbjknkgefpeohaa
