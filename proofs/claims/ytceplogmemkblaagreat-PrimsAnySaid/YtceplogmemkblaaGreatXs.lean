/-
  The evaluator's places, by short names.
-/
import Derived.Test.YtceplogmemkblaaGreatEvU
namespace Go.Ev
section
variable {α : Type}
noncomputable def g0 (n : N8 α) (k : α → Res) : Res := N8.rec (motive := fun _ => Res) (fun b _ _ _ _ _ _ _ => k b) n
noncomputable def g1 (n : N8 α) (k : α → Res) : Res := N8.rec (motive := fun _ => Res) (fun _ b _ _ _ _ _ _ => k b) n
noncomputable def g2 (n : N8 α) (k : α → Res) : Res := N8.rec (motive := fun _ => Res) (fun _ _ b _ _ _ _ _ => k b) n
noncomputable def g3 (n : N8 α) (k : α → Res) : Res := N8.rec (motive := fun _ => Res) (fun _ _ _ b _ _ _ _ => k b) n
noncomputable def g4 (n : N8 α) (k : α → Res) : Res := N8.rec (motive := fun _ => Res) (fun _ _ _ _ b _ _ _ => k b) n
noncomputable def g5 (n : N8 α) (k : α → Res) : Res := N8.rec (motive := fun _ => Res) (fun _ _ _ _ _ b _ _ => k b) n
noncomputable def g6 (n : N8 α) (k : α → Res) : Res := N8.rec (motive := fun _ => Res) (fun _ _ _ _ _ _ b _ => k b) n
noncomputable def g7 (n : N8 α) (k : α → Res) : Res := N8.rec (motive := fun _ => Res) (fun _ _ _ _ _ _ _ b => k b) n
noncomputable def s0 (v : α) (n : N8 α) (k : N8 α → Res) : Res := N8.rec (motive := fun _ => Res) (fun _ b1 b2 b3 b4 b5 b6 b7 => k (.mk v b1 b2 b3 b4 b5 b6 b7)) n
noncomputable def s1 (v : α) (n : N8 α) (k : N8 α → Res) : Res := N8.rec (motive := fun _ => Res) (fun b0 _ b2 b3 b4 b5 b6 b7 => k (.mk b0 v b2 b3 b4 b5 b6 b7)) n
noncomputable def s2 (v : α) (n : N8 α) (k : N8 α → Res) : Res := N8.rec (motive := fun _ => Res) (fun b0 b1 _ b3 b4 b5 b6 b7 => k (.mk b0 b1 v b3 b4 b5 b6 b7)) n
noncomputable def s3 (v : α) (n : N8 α) (k : N8 α → Res) : Res := N8.rec (motive := fun _ => Res) (fun b0 b1 b2 _ b4 b5 b6 b7 => k (.mk b0 b1 b2 v b4 b5 b6 b7)) n
noncomputable def s4 (v : α) (n : N8 α) (k : N8 α → Res) : Res := N8.rec (motive := fun _ => Res) (fun b0 b1 b2 b3 _ b5 b6 b7 => k (.mk b0 b1 b2 b3 v b5 b6 b7)) n
noncomputable def s5 (v : α) (n : N8 α) (k : N8 α → Res) : Res := N8.rec (motive := fun _ => Res) (fun b0 b1 b2 b3 b4 _ b6 b7 => k (.mk b0 b1 b2 b3 b4 v b6 b7)) n
noncomputable def s6 (v : α) (n : N8 α) (k : N8 α → Res) : Res := N8.rec (motive := fun _ => Res) (fun b0 b1 b2 b3 b4 b5 _ b7 => k (.mk b0 b1 b2 b3 b4 b5 v b7)) n
noncomputable def s7 (v : α) (n : N8 α) (k : N8 α → Res) : Res := N8.rec (motive := fun _ => Res) (fun b0 b1 b2 b3 b4 b5 b6 _ => k (.mk b0 b1 b2 b3 b4 b5 b6 v)) n
end
noncomputable def gA (p : N8 (N8 AV) → (N8 AV → Res) → Res) (q : N8 AV → (AV → Res) → Res) (k : AV → Res) (e : Env) : Res := Env.rec (motive := fun _ => Res) (fun s _ => p s fun a => q a k) e
noncomputable def sA (p : N8 (N8 AV) → (N8 AV → Res) → Res) (p' : N8 AV → N8 (N8 AV) → (N8 (N8 AV) → Res) → Res) (q : AV → N8 AV → (N8 AV → Res) → Res) (v : AV) (k : Env → Res) (e : Env) : Res := Env.rec (motive := fun _ => Res) (fun s g => p s fun a => q v a fun a => p' a s fun s => k (.mk s g)) e
noncomputable def gC (r : N8 (N8 (N8 AV)) → (N8 (N8 AV) → Res) → Res) (p : N8 (N8 AV) → (N8 AV → Res) → Res) (q : N8 AV → (AV → Res) → Res) (k : AV → Res) (e : Env) : Res := Env.rec (motive := fun _ => Res) (fun _ s => r s fun c => p c fun a => q a k) e
noncomputable def sC (r : N8 (N8 (N8 AV)) → (N8 (N8 AV) → Res) → Res) (r' : N8 (N8 AV) → N8 (N8 (N8 AV)) → (N8 (N8 (N8 AV)) → Res) → Res) (p : N8 (N8 AV) → (N8 AV → Res) → Res) (p' : N8 AV → N8 (N8 AV) → (N8 (N8 AV) → Res) → Res) (q : AV → N8 AV → (N8 AV → Res) → Res) (v : AV) (k : Env → Res) (e : Env) : Res :=
  Env.rec (motive := fun _ => Res) (fun g s => r s fun c => p c fun a => q v a fun a => p' a c fun c => r' c s fun s => k (.mk g s)) e
noncomputable def x0 : Ix := ⟨.a .i0 .i0, gA g0 g0, sA g0 s0 s0, by funext k e; cases e; rfl, by funext v k e; cases e; rfl⟩
noncomputable def x1 : Ix := ⟨.a .i0 .i1, gA g0 g1, sA g0 s0 s1, by funext k e; cases e; rfl, by funext v k e; cases e; rfl⟩
noncomputable def x2 : Ix := ⟨.a .i0 .i2, gA g0 g2, sA g0 s0 s2, by funext k e; cases e; rfl, by funext v k e; cases e; rfl⟩
noncomputable def x3 : Ix := ⟨.a .i0 .i3, gA g0 g3, sA g0 s0 s3, by funext k e; cases e; rfl, by funext v k e; cases e; rfl⟩
noncomputable def x4 : Ix := ⟨.a .i0 .i4, gA g0 g4, sA g0 s0 s4, by funext k e; cases e; rfl, by funext v k e; cases e; rfl⟩
noncomputable def x5 : Ix := ⟨.a .i0 .i5, gA g0 g5, sA g0 s0 s5, by funext k e; cases e; rfl, by funext v k e; cases e; rfl⟩
noncomputable def x6 : Ix := ⟨.a .i0 .i6, gA g0 g6, sA g0 s0 s6, by funext k e; cases e; rfl, by funext v k e; cases e; rfl⟩
noncomputable def x7 : Ix := ⟨.a .i0 .i7, gA g0 g7, sA g0 s0 s7, by funext k e; cases e; rfl, by funext v k e; cases e; rfl⟩
noncomputable def x8 : Ix := ⟨.a .i1 .i0, gA g1 g0, sA g1 s1 s0, by funext k e; cases e; rfl, by funext v k e; cases e; rfl⟩
noncomputable def x9 : Ix := ⟨.a .i1 .i1, gA g1 g1, sA g1 s1 s1, by funext k e; cases e; rfl, by funext v k e; cases e; rfl⟩
noncomputable def x10 : Ix := ⟨.a .i1 .i2, gA g1 g2, sA g1 s1 s2, by funext k e; cases e; rfl, by funext v k e; cases e; rfl⟩
noncomputable def x11 : Ix := ⟨.a .i1 .i3, gA g1 g3, sA g1 s1 s3, by funext k e; cases e; rfl, by funext v k e; cases e; rfl⟩
noncomputable def x12 : Ix := ⟨.a .i1 .i4, gA g1 g4, sA g1 s1 s4, by funext k e; cases e; rfl, by funext v k e; cases e; rfl⟩
noncomputable def x13 : Ix := ⟨.a .i1 .i5, gA g1 g5, sA g1 s1 s5, by funext k e; cases e; rfl, by funext v k e; cases e; rfl⟩
noncomputable def x14 : Ix := ⟨.a .i1 .i6, gA g1 g6, sA g1 s1 s6, by funext k e; cases e; rfl, by funext v k e; cases e; rfl⟩
noncomputable def x15 : Ix := ⟨.a .i1 .i7, gA g1 g7, sA g1 s1 s7, by funext k e; cases e; rfl, by funext v k e; cases e; rfl⟩
noncomputable def x16 : Ix := ⟨.a .i2 .i0, gA g2 g0, sA g2 s2 s0, by funext k e; cases e; rfl, by funext v k e; cases e; rfl⟩
noncomputable def x17 : Ix := ⟨.a .i2 .i1, gA g2 g1, sA g2 s2 s1, by funext k e; cases e; rfl, by funext v k e; cases e; rfl⟩
noncomputable def x18 : Ix := ⟨.a .i2 .i2, gA g2 g2, sA g2 s2 s2, by funext k e; cases e; rfl, by funext v k e; cases e; rfl⟩
noncomputable def x19 : Ix := ⟨.a .i2 .i3, gA g2 g3, sA g2 s2 s3, by funext k e; cases e; rfl, by funext v k e; cases e; rfl⟩
noncomputable def x20 : Ix := ⟨.a .i2 .i4, gA g2 g4, sA g2 s2 s4, by funext k e; cases e; rfl, by funext v k e; cases e; rfl⟩
noncomputable def x21 : Ix := ⟨.a .i2 .i5, gA g2 g5, sA g2 s2 s5, by funext k e; cases e; rfl, by funext v k e; cases e; rfl⟩
noncomputable def x22 : Ix := ⟨.a .i2 .i6, gA g2 g6, sA g2 s2 s6, by funext k e; cases e; rfl, by funext v k e; cases e; rfl⟩
noncomputable def x23 : Ix := ⟨.a .i2 .i7, gA g2 g7, sA g2 s2 s7, by funext k e; cases e; rfl, by funext v k e; cases e; rfl⟩
noncomputable def x24 : Ix := ⟨.a .i3 .i0, gA g3 g0, sA g3 s3 s0, by funext k e; cases e; rfl, by funext v k e; cases e; rfl⟩
noncomputable def x25 : Ix := ⟨.a .i3 .i1, gA g3 g1, sA g3 s3 s1, by funext k e; cases e; rfl, by funext v k e; cases e; rfl⟩
noncomputable def x26 : Ix := ⟨.a .i3 .i2, gA g3 g2, sA g3 s3 s2, by funext k e; cases e; rfl, by funext v k e; cases e; rfl⟩
noncomputable def x27 : Ix := ⟨.a .i3 .i3, gA g3 g3, sA g3 s3 s3, by funext k e; cases e; rfl, by funext v k e; cases e; rfl⟩
noncomputable def x28 : Ix := ⟨.a .i3 .i4, gA g3 g4, sA g3 s3 s4, by funext k e; cases e; rfl, by funext v k e; cases e; rfl⟩
noncomputable def x29 : Ix := ⟨.a .i3 .i5, gA g3 g5, sA g3 s3 s5, by funext k e; cases e; rfl, by funext v k e; cases e; rfl⟩
noncomputable def x30 : Ix := ⟨.a .i3 .i6, gA g3 g6, sA g3 s3 s6, by funext k e; cases e; rfl, by funext v k e; cases e; rfl⟩
noncomputable def x31 : Ix := ⟨.a .i3 .i7, gA g3 g7, sA g3 s3 s7, by funext k e; cases e; rfl, by funext v k e; cases e; rfl⟩
noncomputable def x32 : Ix := ⟨.a .i4 .i0, gA g4 g0, sA g4 s4 s0, by funext k e; cases e; rfl, by funext v k e; cases e; rfl⟩
noncomputable def x33 : Ix := ⟨.a .i4 .i1, gA g4 g1, sA g4 s4 s1, by funext k e; cases e; rfl, by funext v k e; cases e; rfl⟩
noncomputable def x34 : Ix := ⟨.a .i4 .i2, gA g4 g2, sA g4 s4 s2, by funext k e; cases e; rfl, by funext v k e; cases e; rfl⟩
noncomputable def x35 : Ix := ⟨.a .i4 .i3, gA g4 g3, sA g4 s4 s3, by funext k e; cases e; rfl, by funext v k e; cases e; rfl⟩
noncomputable def x36 : Ix := ⟨.a .i4 .i4, gA g4 g4, sA g4 s4 s4, by funext k e; cases e; rfl, by funext v k e; cases e; rfl⟩
noncomputable def x37 : Ix := ⟨.a .i4 .i5, gA g4 g5, sA g4 s4 s5, by funext k e; cases e; rfl, by funext v k e; cases e; rfl⟩
noncomputable def x38 : Ix := ⟨.a .i4 .i6, gA g4 g6, sA g4 s4 s6, by funext k e; cases e; rfl, by funext v k e; cases e; rfl⟩
noncomputable def x39 : Ix := ⟨.a .i4 .i7, gA g4 g7, sA g4 s4 s7, by funext k e; cases e; rfl, by funext v k e; cases e; rfl⟩
noncomputable def x40 : Ix := ⟨.a .i5 .i0, gA g5 g0, sA g5 s5 s0, by funext k e; cases e; rfl, by funext v k e; cases e; rfl⟩
noncomputable def x41 : Ix := ⟨.a .i5 .i1, gA g5 g1, sA g5 s5 s1, by funext k e; cases e; rfl, by funext v k e; cases e; rfl⟩
noncomputable def x42 : Ix := ⟨.a .i5 .i2, gA g5 g2, sA g5 s5 s2, by funext k e; cases e; rfl, by funext v k e; cases e; rfl⟩
noncomputable def x43 : Ix := ⟨.a .i5 .i3, gA g5 g3, sA g5 s5 s3, by funext k e; cases e; rfl, by funext v k e; cases e; rfl⟩
noncomputable def x44 : Ix := ⟨.a .i5 .i4, gA g5 g4, sA g5 s5 s4, by funext k e; cases e; rfl, by funext v k e; cases e; rfl⟩
noncomputable def x45 : Ix := ⟨.a .i5 .i5, gA g5 g5, sA g5 s5 s5, by funext k e; cases e; rfl, by funext v k e; cases e; rfl⟩
noncomputable def x46 : Ix := ⟨.a .i5 .i6, gA g5 g6, sA g5 s5 s6, by funext k e; cases e; rfl, by funext v k e; cases e; rfl⟩
noncomputable def x47 : Ix := ⟨.a .i5 .i7, gA g5 g7, sA g5 s5 s7, by funext k e; cases e; rfl, by funext v k e; cases e; rfl⟩
noncomputable def x48 : Ix := ⟨.a .i6 .i0, gA g6 g0, sA g6 s6 s0, by funext k e; cases e; rfl, by funext v k e; cases e; rfl⟩
noncomputable def x49 : Ix := ⟨.a .i6 .i1, gA g6 g1, sA g6 s6 s1, by funext k e; cases e; rfl, by funext v k e; cases e; rfl⟩
noncomputable def x50 : Ix := ⟨.a .i6 .i2, gA g6 g2, sA g6 s6 s2, by funext k e; cases e; rfl, by funext v k e; cases e; rfl⟩
noncomputable def x51 : Ix := ⟨.a .i6 .i3, gA g6 g3, sA g6 s6 s3, by funext k e; cases e; rfl, by funext v k e; cases e; rfl⟩
noncomputable def x52 : Ix := ⟨.a .i6 .i4, gA g6 g4, sA g6 s6 s4, by funext k e; cases e; rfl, by funext v k e; cases e; rfl⟩
noncomputable def x53 : Ix := ⟨.a .i6 .i5, gA g6 g5, sA g6 s6 s5, by funext k e; cases e; rfl, by funext v k e; cases e; rfl⟩
noncomputable def x54 : Ix := ⟨.a .i6 .i6, gA g6 g6, sA g6 s6 s6, by funext k e; cases e; rfl, by funext v k e; cases e; rfl⟩
noncomputable def x55 : Ix := ⟨.a .i6 .i7, gA g6 g7, sA g6 s6 s7, by funext k e; cases e; rfl, by funext v k e; cases e; rfl⟩
noncomputable def x56 : Ix := ⟨.a .i7 .i0, gA g7 g0, sA g7 s7 s0, by funext k e; cases e; rfl, by funext v k e; cases e; rfl⟩
noncomputable def x57 : Ix := ⟨.a .i7 .i1, gA g7 g1, sA g7 s7 s1, by funext k e; cases e; rfl, by funext v k e; cases e; rfl⟩
noncomputable def x58 : Ix := ⟨.a .i7 .i2, gA g7 g2, sA g7 s7 s2, by funext k e; cases e; rfl, by funext v k e; cases e; rfl⟩
noncomputable def x59 : Ix := ⟨.a .i7 .i3, gA g7 g3, sA g7 s7 s3, by funext k e; cases e; rfl, by funext v k e; cases e; rfl⟩
noncomputable def x60 : Ix := ⟨.a .i7 .i4, gA g7 g4, sA g7 s7 s4, by funext k e; cases e; rfl, by funext v k e; cases e; rfl⟩
noncomputable def x61 : Ix := ⟨.a .i7 .i5, gA g7 g5, sA g7 s7 s5, by funext k e; cases e; rfl, by funext v k e; cases e; rfl⟩
noncomputable def x62 : Ix := ⟨.a .i7 .i6, gA g7 g6, sA g7 s7 s6, by funext k e; cases e; rfl, by funext v k e; cases e; rfl⟩
noncomputable def x63 : Ix := ⟨.a .i7 .i7, gA g7 g7, sA g7 s7 s7, by funext k e; cases e; rfl, by funext v k e; cases e; rfl⟩
noncomputable def x64 : Ix := ⟨.c .i0 .i0 .i0, gC g0 g0 g0, sC g0 s0 g0 s0 s0, by funext k e; cases e; rfl, by funext v k e; cases e; rfl⟩
noncomputable def x65 : Ix := ⟨.c .i0 .i0 .i1, gC g0 g0 g1, sC g0 s0 g0 s0 s1, by funext k e; cases e; rfl, by funext v k e; cases e; rfl⟩
noncomputable def x66 : Ix := ⟨.c .i0 .i0 .i2, gC g0 g0 g2, sC g0 s0 g0 s0 s2, by funext k e; cases e; rfl, by funext v k e; cases e; rfl⟩
noncomputable def x67 : Ix := ⟨.c .i0 .i0 .i3, gC g0 g0 g3, sC g0 s0 g0 s0 s3, by funext k e; cases e; rfl, by funext v k e; cases e; rfl⟩
noncomputable def x68 : Ix := ⟨.c .i0 .i0 .i4, gC g0 g0 g4, sC g0 s0 g0 s0 s4, by funext k e; cases e; rfl, by funext v k e; cases e; rfl⟩
noncomputable def x69 : Ix := ⟨.c .i0 .i0 .i5, gC g0 g0 g5, sC g0 s0 g0 s0 s5, by funext k e; cases e; rfl, by funext v k e; cases e; rfl⟩
noncomputable def x70 : Ix := ⟨.c .i0 .i0 .i6, gC g0 g0 g6, sC g0 s0 g0 s0 s6, by funext k e; cases e; rfl, by funext v k e; cases e; rfl⟩
noncomputable def x71 : Ix := ⟨.c .i0 .i0 .i7, gC g0 g0 g7, sC g0 s0 g0 s0 s7, by funext k e; cases e; rfl, by funext v k e; cases e; rfl⟩
noncomputable def x72 : Ix := ⟨.c .i0 .i1 .i0, gC g0 g1 g0, sC g0 s0 g1 s1 s0, by funext k e; cases e; rfl, by funext v k e; cases e; rfl⟩
noncomputable def x73 : Ix := ⟨.c .i0 .i1 .i1, gC g0 g1 g1, sC g0 s0 g1 s1 s1, by funext k e; cases e; rfl, by funext v k e; cases e; rfl⟩
noncomputable def x74 : Ix := ⟨.c .i0 .i1 .i2, gC g0 g1 g2, sC g0 s0 g1 s1 s2, by funext k e; cases e; rfl, by funext v k e; cases e; rfl⟩
noncomputable def x75 : Ix := ⟨.c .i0 .i1 .i3, gC g0 g1 g3, sC g0 s0 g1 s1 s3, by funext k e; cases e; rfl, by funext v k e; cases e; rfl⟩
noncomputable def x76 : Ix := ⟨.c .i0 .i1 .i4, gC g0 g1 g4, sC g0 s0 g1 s1 s4, by funext k e; cases e; rfl, by funext v k e; cases e; rfl⟩
noncomputable def x77 : Ix := ⟨.c .i0 .i1 .i5, gC g0 g1 g5, sC g0 s0 g1 s1 s5, by funext k e; cases e; rfl, by funext v k e; cases e; rfl⟩
noncomputable def x78 : Ix := ⟨.c .i0 .i1 .i6, gC g0 g1 g6, sC g0 s0 g1 s1 s6, by funext k e; cases e; rfl, by funext v k e; cases e; rfl⟩
noncomputable def x79 : Ix := ⟨.c .i0 .i1 .i7, gC g0 g1 g7, sC g0 s0 g1 s1 s7, by funext k e; cases e; rfl, by funext v k e; cases e; rfl⟩
noncomputable def x80 : Ix := ⟨.c .i0 .i2 .i0, gC g0 g2 g0, sC g0 s0 g2 s2 s0, by funext k e; cases e; rfl, by funext v k e; cases e; rfl⟩
noncomputable def x81 : Ix := ⟨.c .i0 .i2 .i1, gC g0 g2 g1, sC g0 s0 g2 s2 s1, by funext k e; cases e; rfl, by funext v k e; cases e; rfl⟩
noncomputable def x82 : Ix := ⟨.c .i0 .i2 .i2, gC g0 g2 g2, sC g0 s0 g2 s2 s2, by funext k e; cases e; rfl, by funext v k e; cases e; rfl⟩
noncomputable def x83 : Ix := ⟨.c .i0 .i2 .i3, gC g0 g2 g3, sC g0 s0 g2 s2 s3, by funext k e; cases e; rfl, by funext v k e; cases e; rfl⟩
noncomputable def x84 : Ix := ⟨.c .i0 .i2 .i4, gC g0 g2 g4, sC g0 s0 g2 s2 s4, by funext k e; cases e; rfl, by funext v k e; cases e; rfl⟩
noncomputable def x85 : Ix := ⟨.c .i0 .i2 .i5, gC g0 g2 g5, sC g0 s0 g2 s2 s5, by funext k e; cases e; rfl, by funext v k e; cases e; rfl⟩
noncomputable def x86 : Ix := ⟨.c .i0 .i2 .i6, gC g0 g2 g6, sC g0 s0 g2 s2 s6, by funext k e; cases e; rfl, by funext v k e; cases e; rfl⟩
noncomputable def x87 : Ix := ⟨.c .i0 .i2 .i7, gC g0 g2 g7, sC g0 s0 g2 s2 s7, by funext k e; cases e; rfl, by funext v k e; cases e; rfl⟩
noncomputable def x88 : Ix := ⟨.c .i0 .i3 .i0, gC g0 g3 g0, sC g0 s0 g3 s3 s0, by funext k e; cases e; rfl, by funext v k e; cases e; rfl⟩
noncomputable def x89 : Ix := ⟨.c .i0 .i3 .i1, gC g0 g3 g1, sC g0 s0 g3 s3 s1, by funext k e; cases e; rfl, by funext v k e; cases e; rfl⟩
noncomputable def x90 : Ix := ⟨.c .i0 .i3 .i2, gC g0 g3 g2, sC g0 s0 g3 s3 s2, by funext k e; cases e; rfl, by funext v k e; cases e; rfl⟩
noncomputable def x91 : Ix := ⟨.c .i0 .i3 .i3, gC g0 g3 g3, sC g0 s0 g3 s3 s3, by funext k e; cases e; rfl, by funext v k e; cases e; rfl⟩
noncomputable def x92 : Ix := ⟨.c .i0 .i3 .i4, gC g0 g3 g4, sC g0 s0 g3 s3 s4, by funext k e; cases e; rfl, by funext v k e; cases e; rfl⟩
noncomputable def x93 : Ix := ⟨.c .i0 .i3 .i5, gC g0 g3 g5, sC g0 s0 g3 s3 s5, by funext k e; cases e; rfl, by funext v k e; cases e; rfl⟩
noncomputable def x94 : Ix := ⟨.c .i0 .i3 .i6, gC g0 g3 g6, sC g0 s0 g3 s3 s6, by funext k e; cases e; rfl, by funext v k e; cases e; rfl⟩
noncomputable def x95 : Ix := ⟨.c .i0 .i3 .i7, gC g0 g3 g7, sC g0 s0 g3 s3 s7, by funext k e; cases e; rfl, by funext v k e; cases e; rfl⟩
noncomputable def x96 : Ix := ⟨.c .i0 .i4 .i0, gC g0 g4 g0, sC g0 s0 g4 s4 s0, by funext k e; cases e; rfl, by funext v k e; cases e; rfl⟩
noncomputable def x97 : Ix := ⟨.c .i0 .i4 .i1, gC g0 g4 g1, sC g0 s0 g4 s4 s1, by funext k e; cases e; rfl, by funext v k e; cases e; rfl⟩
noncomputable def x98 : Ix := ⟨.c .i0 .i4 .i2, gC g0 g4 g2, sC g0 s0 g4 s4 s2, by funext k e; cases e; rfl, by funext v k e; cases e; rfl⟩
noncomputable def x99 : Ix := ⟨.c .i0 .i4 .i3, gC g0 g4 g3, sC g0 s0 g4 s4 s3, by funext k e; cases e; rfl, by funext v k e; cases e; rfl⟩
noncomputable def x100 : Ix := ⟨.c .i0 .i4 .i4, gC g0 g4 g4, sC g0 s0 g4 s4 s4, by funext k e; cases e; rfl, by funext v k e; cases e; rfl⟩
noncomputable def x101 : Ix := ⟨.c .i0 .i4 .i5, gC g0 g4 g5, sC g0 s0 g4 s4 s5, by funext k e; cases e; rfl, by funext v k e; cases e; rfl⟩
noncomputable def x102 : Ix := ⟨.c .i0 .i4 .i6, gC g0 g4 g6, sC g0 s0 g4 s4 s6, by funext k e; cases e; rfl, by funext v k e; cases e; rfl⟩
noncomputable def x103 : Ix := ⟨.c .i0 .i4 .i7, gC g0 g4 g7, sC g0 s0 g4 s4 s7, by funext k e; cases e; rfl, by funext v k e; cases e; rfl⟩
noncomputable def x104 : Ix := ⟨.c .i0 .i5 .i0, gC g0 g5 g0, sC g0 s0 g5 s5 s0, by funext k e; cases e; rfl, by funext v k e; cases e; rfl⟩
noncomputable def x105 : Ix := ⟨.c .i0 .i5 .i1, gC g0 g5 g1, sC g0 s0 g5 s5 s1, by funext k e; cases e; rfl, by funext v k e; cases e; rfl⟩
noncomputable def x106 : Ix := ⟨.c .i0 .i5 .i2, gC g0 g5 g2, sC g0 s0 g5 s5 s2, by funext k e; cases e; rfl, by funext v k e; cases e; rfl⟩
noncomputable def x107 : Ix := ⟨.c .i0 .i5 .i3, gC g0 g5 g3, sC g0 s0 g5 s5 s3, by funext k e; cases e; rfl, by funext v k e; cases e; rfl⟩
noncomputable def x108 : Ix := ⟨.c .i0 .i5 .i4, gC g0 g5 g4, sC g0 s0 g5 s5 s4, by funext k e; cases e; rfl, by funext v k e; cases e; rfl⟩
noncomputable def x109 : Ix := ⟨.c .i0 .i5 .i5, gC g0 g5 g5, sC g0 s0 g5 s5 s5, by funext k e; cases e; rfl, by funext v k e; cases e; rfl⟩
noncomputable def x110 : Ix := ⟨.c .i0 .i5 .i6, gC g0 g5 g6, sC g0 s0 g5 s5 s6, by funext k e; cases e; rfl, by funext v k e; cases e; rfl⟩
noncomputable def x111 : Ix := ⟨.c .i0 .i5 .i7, gC g0 g5 g7, sC g0 s0 g5 s5 s7, by funext k e; cases e; rfl, by funext v k e; cases e; rfl⟩
noncomputable def x112 : Ix := ⟨.c .i0 .i6 .i0, gC g0 g6 g0, sC g0 s0 g6 s6 s0, by funext k e; cases e; rfl, by funext v k e; cases e; rfl⟩
noncomputable def x113 : Ix := ⟨.c .i0 .i6 .i1, gC g0 g6 g1, sC g0 s0 g6 s6 s1, by funext k e; cases e; rfl, by funext v k e; cases e; rfl⟩
noncomputable def x114 : Ix := ⟨.c .i0 .i6 .i2, gC g0 g6 g2, sC g0 s0 g6 s6 s2, by funext k e; cases e; rfl, by funext v k e; cases e; rfl⟩
noncomputable def x115 : Ix := ⟨.c .i0 .i6 .i3, gC g0 g6 g3, sC g0 s0 g6 s6 s3, by funext k e; cases e; rfl, by funext v k e; cases e; rfl⟩
noncomputable def x116 : Ix := ⟨.c .i0 .i6 .i4, gC g0 g6 g4, sC g0 s0 g6 s6 s4, by funext k e; cases e; rfl, by funext v k e; cases e; rfl⟩
noncomputable def x117 : Ix := ⟨.c .i0 .i6 .i5, gC g0 g6 g5, sC g0 s0 g6 s6 s5, by funext k e; cases e; rfl, by funext v k e; cases e; rfl⟩
noncomputable def x118 : Ix := ⟨.c .i0 .i6 .i6, gC g0 g6 g6, sC g0 s0 g6 s6 s6, by funext k e; cases e; rfl, by funext v k e; cases e; rfl⟩
noncomputable def x119 : Ix := ⟨.c .i0 .i6 .i7, gC g0 g6 g7, sC g0 s0 g6 s6 s7, by funext k e; cases e; rfl, by funext v k e; cases e; rfl⟩
noncomputable def x120 : Ix := ⟨.c .i0 .i7 .i0, gC g0 g7 g0, sC g0 s0 g7 s7 s0, by funext k e; cases e; rfl, by funext v k e; cases e; rfl⟩
noncomputable def x121 : Ix := ⟨.c .i0 .i7 .i1, gC g0 g7 g1, sC g0 s0 g7 s7 s1, by funext k e; cases e; rfl, by funext v k e; cases e; rfl⟩
noncomputable def x122 : Ix := ⟨.c .i0 .i7 .i2, gC g0 g7 g2, sC g0 s0 g7 s7 s2, by funext k e; cases e; rfl, by funext v k e; cases e; rfl⟩
noncomputable def x123 : Ix := ⟨.c .i0 .i7 .i3, gC g0 g7 g3, sC g0 s0 g7 s7 s3, by funext k e; cases e; rfl, by funext v k e; cases e; rfl⟩
noncomputable def x124 : Ix := ⟨.c .i0 .i7 .i4, gC g0 g7 g4, sC g0 s0 g7 s7 s4, by funext k e; cases e; rfl, by funext v k e; cases e; rfl⟩
noncomputable def x125 : Ix := ⟨.c .i0 .i7 .i5, gC g0 g7 g5, sC g0 s0 g7 s7 s5, by funext k e; cases e; rfl, by funext v k e; cases e; rfl⟩
noncomputable def x126 : Ix := ⟨.c .i0 .i7 .i6, gC g0 g7 g6, sC g0 s0 g7 s7 s6, by funext k e; cases e; rfl, by funext v k e; cases e; rfl⟩
noncomputable def x127 : Ix := ⟨.c .i0 .i7 .i7, gC g0 g7 g7, sC g0 s0 g7 s7 s7, by funext k e; cases e; rfl, by funext v k e; cases e; rfl⟩
noncomputable def x128 : Ix := ⟨.c .i1 .i0 .i0, gC g1 g0 g0, sC g1 s1 g0 s0 s0, by funext k e; cases e; rfl, by funext v k e; cases e; rfl⟩
noncomputable def x129 : Ix := ⟨.c .i1 .i0 .i1, gC g1 g0 g1, sC g1 s1 g0 s0 s1, by funext k e; cases e; rfl, by funext v k e; cases e; rfl⟩
noncomputable def x130 : Ix := ⟨.c .i1 .i0 .i2, gC g1 g0 g2, sC g1 s1 g0 s0 s2, by funext k e; cases e; rfl, by funext v k e; cases e; rfl⟩
noncomputable def x131 : Ix := ⟨.c .i1 .i0 .i3, gC g1 g0 g3, sC g1 s1 g0 s0 s3, by funext k e; cases e; rfl, by funext v k e; cases e; rfl⟩
noncomputable def x132 : Ix := ⟨.c .i1 .i0 .i4, gC g1 g0 g4, sC g1 s1 g0 s0 s4, by funext k e; cases e; rfl, by funext v k e; cases e; rfl⟩
noncomputable def x133 : Ix := ⟨.c .i1 .i0 .i5, gC g1 g0 g5, sC g1 s1 g0 s0 s5, by funext k e; cases e; rfl, by funext v k e; cases e; rfl⟩
noncomputable def x134 : Ix := ⟨.c .i1 .i0 .i6, gC g1 g0 g6, sC g1 s1 g0 s0 s6, by funext k e; cases e; rfl, by funext v k e; cases e; rfl⟩
noncomputable def x135 : Ix := ⟨.c .i1 .i0 .i7, gC g1 g0 g7, sC g1 s1 g0 s0 s7, by funext k e; cases e; rfl, by funext v k e; cases e; rfl⟩
noncomputable def x136 : Ix := ⟨.c .i1 .i1 .i0, gC g1 g1 g0, sC g1 s1 g1 s1 s0, by funext k e; cases e; rfl, by funext v k e; cases e; rfl⟩
noncomputable def x137 : Ix := ⟨.c .i1 .i1 .i1, gC g1 g1 g1, sC g1 s1 g1 s1 s1, by funext k e; cases e; rfl, by funext v k e; cases e; rfl⟩
noncomputable def x138 : Ix := ⟨.c .i1 .i1 .i2, gC g1 g1 g2, sC g1 s1 g1 s1 s2, by funext k e; cases e; rfl, by funext v k e; cases e; rfl⟩
noncomputable def x139 : Ix := ⟨.c .i1 .i1 .i3, gC g1 g1 g3, sC g1 s1 g1 s1 s3, by funext k e; cases e; rfl, by funext v k e; cases e; rfl⟩
noncomputable def x140 : Ix := ⟨.c .i1 .i1 .i4, gC g1 g1 g4, sC g1 s1 g1 s1 s4, by funext k e; cases e; rfl, by funext v k e; cases e; rfl⟩
noncomputable def x141 : Ix := ⟨.c .i1 .i1 .i5, gC g1 g1 g5, sC g1 s1 g1 s1 s5, by funext k e; cases e; rfl, by funext v k e; cases e; rfl⟩
noncomputable def x142 : Ix := ⟨.c .i1 .i1 .i6, gC g1 g1 g6, sC g1 s1 g1 s1 s6, by funext k e; cases e; rfl, by funext v k e; cases e; rfl⟩
noncomputable def x143 : Ix := ⟨.c .i1 .i1 .i7, gC g1 g1 g7, sC g1 s1 g1 s1 s7, by funext k e; cases e; rfl, by funext v k e; cases e; rfl⟩
noncomputable def x144 : Ix := ⟨.c .i1 .i2 .i0, gC g1 g2 g0, sC g1 s1 g2 s2 s0, by funext k e; cases e; rfl, by funext v k e; cases e; rfl⟩
noncomputable def x145 : Ix := ⟨.c .i1 .i2 .i1, gC g1 g2 g1, sC g1 s1 g2 s2 s1, by funext k e; cases e; rfl, by funext v k e; cases e; rfl⟩
noncomputable def x146 : Ix := ⟨.c .i1 .i2 .i2, gC g1 g2 g2, sC g1 s1 g2 s2 s2, by funext k e; cases e; rfl, by funext v k e; cases e; rfl⟩
noncomputable def x147 : Ix := ⟨.c .i1 .i2 .i3, gC g1 g2 g3, sC g1 s1 g2 s2 s3, by funext k e; cases e; rfl, by funext v k e; cases e; rfl⟩
noncomputable def x148 : Ix := ⟨.c .i1 .i2 .i4, gC g1 g2 g4, sC g1 s1 g2 s2 s4, by funext k e; cases e; rfl, by funext v k e; cases e; rfl⟩
noncomputable def x149 : Ix := ⟨.c .i1 .i2 .i5, gC g1 g2 g5, sC g1 s1 g2 s2 s5, by funext k e; cases e; rfl, by funext v k e; cases e; rfl⟩
noncomputable def x150 : Ix := ⟨.c .i1 .i2 .i6, gC g1 g2 g6, sC g1 s1 g2 s2 s6, by funext k e; cases e; rfl, by funext v k e; cases e; rfl⟩
noncomputable def x151 : Ix := ⟨.c .i1 .i2 .i7, gC g1 g2 g7, sC g1 s1 g2 s2 s7, by funext k e; cases e; rfl, by funext v k e; cases e; rfl⟩
noncomputable def x152 : Ix := ⟨.c .i1 .i3 .i0, gC g1 g3 g0, sC g1 s1 g3 s3 s0, by funext k e; cases e; rfl, by funext v k e; cases e; rfl⟩
noncomputable def x153 : Ix := ⟨.c .i1 .i3 .i1, gC g1 g3 g1, sC g1 s1 g3 s3 s1, by funext k e; cases e; rfl, by funext v k e; cases e; rfl⟩
noncomputable def x154 : Ix := ⟨.c .i1 .i3 .i2, gC g1 g3 g2, sC g1 s1 g3 s3 s2, by funext k e; cases e; rfl, by funext v k e; cases e; rfl⟩
noncomputable def x155 : Ix := ⟨.c .i1 .i3 .i3, gC g1 g3 g3, sC g1 s1 g3 s3 s3, by funext k e; cases e; rfl, by funext v k e; cases e; rfl⟩
noncomputable def x156 : Ix := ⟨.c .i1 .i3 .i4, gC g1 g3 g4, sC g1 s1 g3 s3 s4, by funext k e; cases e; rfl, by funext v k e; cases e; rfl⟩
noncomputable def x157 : Ix := ⟨.c .i1 .i3 .i5, gC g1 g3 g5, sC g1 s1 g3 s3 s5, by funext k e; cases e; rfl, by funext v k e; cases e; rfl⟩
noncomputable def x158 : Ix := ⟨.c .i1 .i3 .i6, gC g1 g3 g6, sC g1 s1 g3 s3 s6, by funext k e; cases e; rfl, by funext v k e; cases e; rfl⟩
noncomputable def x159 : Ix := ⟨.c .i1 .i3 .i7, gC g1 g3 g7, sC g1 s1 g3 s3 s7, by funext k e; cases e; rfl, by funext v k e; cases e; rfl⟩
noncomputable def x160 : Ix := ⟨.c .i1 .i4 .i0, gC g1 g4 g0, sC g1 s1 g4 s4 s0, by funext k e; cases e; rfl, by funext v k e; cases e; rfl⟩
noncomputable def x161 : Ix := ⟨.c .i1 .i4 .i1, gC g1 g4 g1, sC g1 s1 g4 s4 s1, by funext k e; cases e; rfl, by funext v k e; cases e; rfl⟩
noncomputable def x162 : Ix := ⟨.c .i1 .i4 .i2, gC g1 g4 g2, sC g1 s1 g4 s4 s2, by funext k e; cases e; rfl, by funext v k e; cases e; rfl⟩
noncomputable def x163 : Ix := ⟨.c .i1 .i4 .i3, gC g1 g4 g3, sC g1 s1 g4 s4 s3, by funext k e; cases e; rfl, by funext v k e; cases e; rfl⟩
noncomputable def x164 : Ix := ⟨.c .i1 .i4 .i4, gC g1 g4 g4, sC g1 s1 g4 s4 s4, by funext k e; cases e; rfl, by funext v k e; cases e; rfl⟩
noncomputable def x165 : Ix := ⟨.c .i1 .i4 .i5, gC g1 g4 g5, sC g1 s1 g4 s4 s5, by funext k e; cases e; rfl, by funext v k e; cases e; rfl⟩
noncomputable def x166 : Ix := ⟨.c .i1 .i4 .i6, gC g1 g4 g6, sC g1 s1 g4 s4 s6, by funext k e; cases e; rfl, by funext v k e; cases e; rfl⟩
noncomputable def x167 : Ix := ⟨.c .i1 .i4 .i7, gC g1 g4 g7, sC g1 s1 g4 s4 s7, by funext k e; cases e; rfl, by funext v k e; cases e; rfl⟩
noncomputable def x168 : Ix := ⟨.c .i1 .i5 .i0, gC g1 g5 g0, sC g1 s1 g5 s5 s0, by funext k e; cases e; rfl, by funext v k e; cases e; rfl⟩
noncomputable def x169 : Ix := ⟨.c .i1 .i5 .i1, gC g1 g5 g1, sC g1 s1 g5 s5 s1, by funext k e; cases e; rfl, by funext v k e; cases e; rfl⟩
noncomputable def x170 : Ix := ⟨.c .i1 .i5 .i2, gC g1 g5 g2, sC g1 s1 g5 s5 s2, by funext k e; cases e; rfl, by funext v k e; cases e; rfl⟩
noncomputable def x171 : Ix := ⟨.c .i1 .i5 .i3, gC g1 g5 g3, sC g1 s1 g5 s5 s3, by funext k e; cases e; rfl, by funext v k e; cases e; rfl⟩
noncomputable def x172 : Ix := ⟨.c .i1 .i5 .i4, gC g1 g5 g4, sC g1 s1 g5 s5 s4, by funext k e; cases e; rfl, by funext v k e; cases e; rfl⟩
noncomputable def x173 : Ix := ⟨.c .i1 .i5 .i5, gC g1 g5 g5, sC g1 s1 g5 s5 s5, by funext k e; cases e; rfl, by funext v k e; cases e; rfl⟩
noncomputable def x174 : Ix := ⟨.c .i1 .i5 .i6, gC g1 g5 g6, sC g1 s1 g5 s5 s6, by funext k e; cases e; rfl, by funext v k e; cases e; rfl⟩
noncomputable def x175 : Ix := ⟨.c .i1 .i5 .i7, gC g1 g5 g7, sC g1 s1 g5 s5 s7, by funext k e; cases e; rfl, by funext v k e; cases e; rfl⟩
noncomputable def x176 : Ix := ⟨.c .i1 .i6 .i0, gC g1 g6 g0, sC g1 s1 g6 s6 s0, by funext k e; cases e; rfl, by funext v k e; cases e; rfl⟩
noncomputable def x177 : Ix := ⟨.c .i1 .i6 .i1, gC g1 g6 g1, sC g1 s1 g6 s6 s1, by funext k e; cases e; rfl, by funext v k e; cases e; rfl⟩
noncomputable def x178 : Ix := ⟨.c .i1 .i6 .i2, gC g1 g6 g2, sC g1 s1 g6 s6 s2, by funext k e; cases e; rfl, by funext v k e; cases e; rfl⟩
noncomputable def x179 : Ix := ⟨.c .i1 .i6 .i3, gC g1 g6 g3, sC g1 s1 g6 s6 s3, by funext k e; cases e; rfl, by funext v k e; cases e; rfl⟩
end Go.Ev
