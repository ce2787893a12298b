/- Do's closure out of what an instruction does. -/
import Derived.Test.YtndldoamadmphaaMd16
namespace Go.Proofs.Ytndldoamadmphaa
open Go.RowKit
/-- What an instruction does: it tells the state behind, and a value. -/
def OpYes (f g : Nat) (i : In) (M2 : Mo) (ret val : Int) (M3 : Mo) : Prop := ∀ (w : World) (c : Col) (m : Nat) (Y : Lay) (vb : Nat) (a1 a2 a3 a4 : Int), ModelAt w c m Y M2 → Blk w vb 34 (cmV a1 a2 a3 a4 0 false) → (c vb).1 = 7 →
  Calls Try.prog f #[.pointer (some ⟨m, 0, none⟩), .int .i64 g, .pointer (some ⟨Y.gp g, 0, none⟩), i.v, .pointer (some ⟨vb, 4, none⟩)] w fun e w' => e = .returned (.int .i64 ret) ∧ OpPost w c m Y M2 vb w' (cmV a1 a2 a3 a4 val false) M3
/-- .. it can't be done. -/
def OpNo (f g : Nat) (i : In) (M2 : Mo) : Prop := ∀ (w : World) (c : Col) (m : Nat) (Y : Lay) (vb : Nat) (a1 a2 a3 a4 : Int), ModelAt w c m Y M2 → Blk w vb 34 (cmV a1 a2 a3 a4 0 false) → (c vb).1 = 7 →
  Calls Try.prog f #[.pointer (some ⟨m, 0, none⟩), .int .i64 g, .pointer (some ⟨Y.gp g, 0, none⟩), i.v, .pointer (some ⟨vb, 4, none⟩)] w fun e w' => e = .panicked [{ v := faultV, recovered := false }] ∧ ∃ val, OpPost w c m Y M2 vb w' (cmV a1 a2 a3 a4 val false) M2

theorem Upd.ops {w : World} (o : Obj) : Upd (fun _ => False) w (w.drew.alloc o) := ((Upd.refl _ w).drew).alloc o
theorem Boxes.after {w w' : World} {c : Col} {vb to mb ib gb xb m xp g : Nat} {i : In} {cv : Array Value} (hb : Boxes w c vb to mb ib gb xb m xp g i cv) (hu : Upd (fun k => (c k).1 < 7 ∨ k = vb) w w') :
    Blk w' to 3 #[.int .i64 1] ∧ Blk w' mb 29 #[.pointer (some ⟨m, 0, none⟩)] ∧ Blk w' ib 40 (inV i) ∧ Blk w' gb 3 #[.int .i64 g] ∧ Blk w' xb 74 #[.pointer (some ⟨xp, 0, none⟩)] := by
  obtain ⟨k1, k2, k3, k4, k5, k6⟩ := hb.col
  obtain ⟨n1, n2, n3, n4⟩ := hb.nv
  obtain ⟨t1, t2, t3, t4, t5⟩ := hb.nt
  exact ⟨hb.ht.upd hu (fun e => by omega), hb.hm.upd hu (fun e => by omega), hb.hi.upd hu (fun e => by omega), hb.hg.upd hu (fun e => by omega), hb.hx.upd hu (fun e => by omega)⟩
theorem do1_of_yes {f g k : Nat} {i : In} {M2 M3 : Mo} {ret val : Int} (hk : i.op = k) (hf : opFs[k]? = some f) (hop : OpYes f g i M2 ret val M3) : Do1 g i M2 val false ret M3 := by
  intro w c m Y vb to mb ib gb xb a1 a2 a3 a4 h hb
  have hW := Upd.ops (w := w) (.cells (opsV m) 81)
  have hcall := hop (w.drew.alloc (.cells (opsV m) 81)) c m Y vb a1 a2 a3 a4 (h.frame hW (fun _ e => e.elim)) (hb.hv.upd hW (fun e => e)) hb.col.1
  have hall : ∀ {w'}, OpPost (w.drew.alloc (.cells (opsV m) 81)) c m Y M2 vb w' (cmV a1 a2 a3 a4 val false) M3 → Upd (fun k => (c k).1 < 7 ∨ k = vb) w w' := by
    rintro w' ⟨c3, Y3, _, _, b3, _⟩
    exact (hW.mono (fun _ e => e.elim)).trans b3 (fun k e => .inl e)
  refine (do1_yes hb.hm hb.hi hb.hg hb.hx ⟨hb.nt.2.1, hb.nt.2.2.1, hb.nt.2.2.2.1, hb.nt.2.2.2.2⟩ hk hf hcall (fun w' q => hb.after (hall q))).mono ?_
  rintro e w' ⟨rfl, w1, q, rfl⟩
  refine ⟨rfl, ?_⟩
  have hu := hall q
  obtain ⟨ht1, _⟩ := hb.after hu
  obtain ⟨c3, Y3, b1, b2, b3, b4, b5, b6⟩ := q
  have hct : (c3 to).1 = 7 := by rw [b4 to (hb.ht.upd hW (fun e => e)).lt]; exact hb.col.2.1
  have hu2 : Upd (fun k => k = to) w1 ((w1.setCell ⟨to, 0, none⟩ (.int .i64 ret)).alloc (.cells #[] 79)) := ((Upd.refl (fun k => k = to) w1).setCell (p := ⟨to, 0, none⟩) (.inl rfl) _).alloc _
  refine ⟨c3, Y3, b1.frame hu2 (fun k e => by rw [e]; exact hct), b2.upd hu2 hb.nt.1.symm, ?_, (hu.mono (fun k e => .inl (by rcases e with e | e; exact .inl e; exact .inr (.inl e)))).trans hu2 (fun k e => .inl (.inr (.inr e))), fun k hk => b4 k (Nat.lt_of_lt_of_le hk hW.size), b5, fun k hk hk2 => ?_⟩
  · exact (ht1.set_ 0 (.int .i64 ret)).alloc _
  · by_cases h1 : k < (w.drew.alloc (.cells (opsV m) 81)).heap.size
    · right
      rw [b4 k h1]
      exact h.free k hk
    · by_cases h2 : k < w1.heap.size
      · exact b6 k (by omega) h2
      · exact .inr (b1.free k (by omega))
theorem do1_of_no {f g k : Nat} {i : In} {M2 : Mo} (hk : i.op = k) (hf : opFs[k]? = some f) (hop : OpNo f g i M2) : Do1 g i M2 0 true 5 M2 := by
  intro w c m Y vb to mb ib gb xb a1 a2 a3 a4 h hb
  have hW := Upd.ops (w := w) (.cells (opsV m) 81)
  have hcall := hop (w.drew.alloc (.cells (opsV m) 81)) c m Y vb a1 a2 a3 a4 (h.frame hW (fun _ e => e.elim)) (hb.hv.upd hW (fun e => e)) hb.col.1
  have hall : ∀ {w' val}, OpPost (w.drew.alloc (.cells (opsV m) 81)) c m Y M2 vb w' (cmV a1 a2 a3 a4 val false) M2 → Upd (fun k => (c k).1 < 7 ∨ k = vb) w w' := by
    rintro w' val ⟨c3, Y3, _, _, b3, _⟩
    exact (hW.mono (fun _ e => e.elim)).trans b3 (fun k e => .inl e)
  refine (do1_no hb.hm hb.hi hb.hg hb.hx hb.nt.1 hk hf hcall (fun w' q => ?_)).mono ?_
  · obtain ⟨val, q⟩ := q
    refine ⟨(hb.after (hall q)).1, cmV a1 a2 a3 a4 val false, .int .i64 val, .bool false, ?_, rfl, rfl⟩
    obtain ⟨_, _, _, b2, _⟩ := q
    exact b2
  rintro e w' ⟨rfl, w1, cv, ⟨val, q⟩, hcv, hu2, hv2, ht2⟩
  refine ⟨rfl, ?_⟩
  have hu := hall q
  obtain ⟨c3, Y3, b1, b2, b3, b4, b5, b6⟩ := q
  obtain ⟨_, hcv2⟩ := b2.inj hcv
  subst hcv2
  have hct : (c3 to).1 = 7 := by rw [b4 to (hb.ht.upd hW (fun e => e)).lt]; exact hb.col.2.1
  have hcv3 : (c3 vb).1 = 7 := by rw [b4 vb (hb.hv.upd hW (fun e => e)).lt]; exact hb.col.1
  refine ⟨c3, Y3, b1.frame hu2 (fun k e => by rcases e with e | e <;> rw [e] <;> assumption), hv2, ht2, (hu.mono (fun k e => .inl (by rcases e with e | e; exact .inl e; exact .inr (.inl e)))).trans hu2 (fun k e => .inl (.inr e)), fun k hk => b4 k (Nat.lt_of_lt_of_le hk hW.size), b5, fun k hk hk2 => ?_⟩
  by_cases h1 : k < (w.drew.alloc (.cells (opsV m) 81)).heap.size
  · right
    rw [b4 k h1]
    exact h.free k hk
  · by_cases h2 : k < w1.heap.size
    · exact b6 k (by omega) h2
    · exact .inr (b1.free k (by omega))
end Go.Proofs.Ytndldoamadmphaa
