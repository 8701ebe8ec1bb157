/- The codes that are computed with are those of the program: each one is what compFn gives. -/
import Derived.Test.YtfmojojicndbcaaOpB
import Derived.Test.YtfmojojicndbcaaSlCode
import Derived.Test.YtfmojojicndbcaaProg
import Derived.KernelRfl
namespace Go.Proofs.Ytfmojojicndbcaa.AxOk
open Go.Ax Go.Ax.Sx Go.Ax.Sx.Sl
set_option maxRecDepth 100000

theorem k3 : compFn Try.prog false Try.f3 = some c3 := by kernel_rfl
theorem k4 : compFn Try.prog false Try.f4 = some c4 := by kernel_rfl
theorem k5 : compFn Try.prog false Try.f5 = some c5 := by kernel_rfl
theorem k6 : compFn Try.prog false Try.f6 = some c6 := by kernel_rfl
theorem k7 : compFn Try.prog false Try.f7 = some c7 := by kernel_rfl
theorem k8 : compFn Try.prog false Try.f8 = some c8 := by kernel_rfl
theorem k9 : compFn Try.prog false Try.f9 = some c9 := by kernel_rfl
theorem k10 : compFn Try.prog false Try.f10 = some c10 := by kernel_rfl
theorem k11 : compFn Try.prog false Try.f11 = some c11 := by kernel_rfl
theorem k12 : compFn Try.prog false Try.f12 = some c12 := by kernel_rfl
theorem k13 : compFn Try.prog false Try.f13 = some c13 := by kernel_rfl
theorem k14 : compFn Try.prog false Try.f14 = some c14 := by kernel_rfl
theorem k15 : compFn Try.prog false Try.f15 = some c15 := by kernel_rfl
theorem k16 : compFn Try.prog false Try.f16 = some c16 := by kernel_rfl
theorem k17 : compFn Try.prog false Try.f17 = some c17 := by kernel_rfl
theorem k18 : compFn Try.prog false Try.f18 = some c18 := by kernel_rfl
theorem k19 : compFn Try.prog false Try.f19 = some c19 := by kernel_rfl
theorem k20 : compFn Try.prog false Try.f20 = some c20 := by kernel_rfl
theorem k21 : compFn Try.prog false Try.f21 = some c21 := by kernel_rfl
theorem k22 : compFn Try.prog false Try.f22 = some c22 := by kernel_rfl
theorem k23 : compFn Try.prog false Try.f23 = some c23 := by kernel_rfl
theorem k24 : compFn Try.prog false Try.f24 = some c24 := by kernel_rfl
theorem k25 : compFn Try.prog false Try.f25 = some c25 := by kernel_rfl
theorem k26 : compFn Try.prog false Try.f26 = some c26 := by kernel_rfl
theorem k27 : compFn Try.prog false Try.f27 = some c27 := by kernel_rfl
theorem k28 : compFn Try.prog false Try.f28 = some c28 := by kernel_rfl
theorem k29 : compFn Try.prog false Try.f29 = some c29 := by kernel_rfl
theorem k30 : compFn Try.prog false Try.f30 = some c30 := by kernel_rfl
theorem k31 : compFn Try.prog false Try.f31 = some c31 := by kernel_rfl
theorem k32 : compFn Try.prog false Try.f32 = some c32 := by kernel_rfl
theorem k33 : compFn Try.prog false Try.f33 = some c33 := by kernel_rfl
theorem k34 : compFn Try.prog false Try.f34 = some c34 := by kernel_rfl
theorem k35 : compFn Try.prog false Try.f35 = some c35 := by kernel_rfl
theorem k36 : compFn Try.prog false Try.f36 = some c36 := by kernel_rfl
theorem k37 : compFn Try.prog false Try.f37 = some c37 := by kernel_rfl
theorem k38 : compFn Try.prog false Try.f38 = some c38 := by kernel_rfl
theorem k39 : compFn Try.prog false Try.f39 = some c39 := by kernel_rfl
theorem k40 : compFn Try.prog false Try.f40 = some c40 := by kernel_rfl
theorem k41 : compFn Try.prog false Try.f41 = some c41 := by kernel_rfl
theorem k42 : compFn Try.prog false Try.f42 = some c42 := by kernel_rfl
theorem k43 : compFn Try.prog false Try.f43 = some c43 := by kernel_rfl
theorem k44 : compFn Try.prog false Try.f44 = some c44 := by kernel_rfl
theorem k45 : compFn Try.prog false Try.f45 = some c45 := by kernel_rfl
theorem k46 : compFn Try.prog false Try.f46 = some c46 := by kernel_rfl
theorem k47 : compFn Try.prog false Try.f47 = some c47 := by kernel_rfl
theorem k48 : compFn Try.prog false Try.f48 = some c48 := by kernel_rfl
theorem k49 : compFn Try.prog false Try.f49 = some c49 := by kernel_rfl
theorem k50 : compFn Try.prog false Try.f50 = some c50 := by kernel_rfl
theorem k51 : compFn Try.prog false Try.f51 = some c51 := by kernel_rfl
theorem k52 : compFn Try.prog false Try.f52 = some c52 := by kernel_rfl
theorem k53 : compFn Try.prog false Try.f53 = some c53 := by kernel_rfl
theorem k54 : compFn Try.prog false Try.f54 = some c54 := by kernel_rfl
theorem k55 : compFn Try.prog false Try.f55 = some c55 := by kernel_rfl
theorem k56 : compFn Try.prog false Try.f56 = some c56 := by kernel_rfl
theorem k57 : compFn Try.prog false Try.f57 = some c57 := by kernel_rfl
theorem k58 : compFn Try.prog false Try.f58 = some c58 := by kernel_rfl
theorem k59 : compFn Try.prog false Try.f59 = some c59 := by kernel_rfl

theorem code_ok (f : FuncId) (np nt : Nat) (b : ACode) (rs : List ARes) (own : Bool) (h : AP f = some (.code np nt b rs own)) : ∃ fn, Try.prog.funcs[f]? = some fn ∧ compFn Try.prog own fn = some (.code np nt b rs own) := by
  match f, h with
  | 0, h => have e : AP 0 = none := rfl; rw [e] at h; cases h
  | 1, h => have e : AP 1 = none := rfl; rw [e] at h; cases h
  | 2, h => have e : AP 2 = none := rfl; rw [e] at h; cases h
  | 3, h => have e : c3 = .code np nt b rs own := Option.some.inj h; unfold c3 at e; cases e; exact ⟨_, Try.func3, k3⟩
  | 4, h => have e : c4 = .code np nt b rs own := Option.some.inj h; unfold c4 at e; cases e; exact ⟨_, Try.func4, k4⟩
  | 5, h => have e : c5 = .code np nt b rs own := Option.some.inj h; unfold c5 at e; cases e; exact ⟨_, Try.func5, k5⟩
  | 6, h => have e : c6 = .code np nt b rs own := Option.some.inj h; unfold c6 at e; cases e; exact ⟨_, Try.func6, k6⟩
  | 7, h => have e : c7 = .code np nt b rs own := Option.some.inj h; unfold c7 at e; cases e; exact ⟨_, Try.func7, k7⟩
  | 8, h => have e : c8 = .code np nt b rs own := Option.some.inj h; unfold c8 at e; cases e; exact ⟨_, Try.func8, k8⟩
  | 9, h => have e : c9 = .code np nt b rs own := Option.some.inj h; unfold c9 at e; cases e; exact ⟨_, Try.func9, k9⟩
  | 10, h => have e : c10 = .code np nt b rs own := Option.some.inj h; unfold c10 at e; cases e; exact ⟨_, Try.func10, k10⟩
  | 11, h => have e : c11 = .code np nt b rs own := Option.some.inj h; unfold c11 at e; cases e; exact ⟨_, Try.func11, k11⟩
  | 12, h => have e : c12 = .code np nt b rs own := Option.some.inj h; unfold c12 at e; cases e; exact ⟨_, Try.func12, k12⟩
  | 13, h => have e : c13 = .code np nt b rs own := Option.some.inj h; unfold c13 at e; cases e; exact ⟨_, Try.func13, k13⟩
  | 14, h => have e : c14 = .code np nt b rs own := Option.some.inj h; unfold c14 at e; cases e; exact ⟨_, Try.func14, k14⟩
  | 15, h => have e : c15 = .code np nt b rs own := Option.some.inj h; unfold c15 at e; cases e; exact ⟨_, Try.func15, k15⟩
  | 16, h => have e : c16 = .code np nt b rs own := Option.some.inj h; unfold c16 at e; cases e; exact ⟨_, Try.func16, k16⟩
  | 17, h => have e : c17 = .code np nt b rs own := Option.some.inj h; unfold c17 at e; cases e; exact ⟨_, Try.func17, k17⟩
  | 18, h => have e : c18 = .code np nt b rs own := Option.some.inj h; unfold c18 at e; cases e; exact ⟨_, Try.func18, k18⟩
  | 19, h => have e : c19 = .code np nt b rs own := Option.some.inj h; unfold c19 at e; cases e; exact ⟨_, Try.func19, k19⟩
  | 20, h => have e : c20 = .code np nt b rs own := Option.some.inj h; unfold c20 at e; cases e; exact ⟨_, Try.func20, k20⟩
  | 21, h => have e : c21 = .code np nt b rs own := Option.some.inj h; unfold c21 at e; cases e; exact ⟨_, Try.func21, k21⟩
  | 22, h => have e : c22 = .code np nt b rs own := Option.some.inj h; unfold c22 at e; cases e; exact ⟨_, Try.func22, k22⟩
  | 23, h => have e : c23 = .code np nt b rs own := Option.some.inj h; unfold c23 at e; cases e; exact ⟨_, Try.func23, k23⟩
  | 24, h => have e : c24 = .code np nt b rs own := Option.some.inj h; unfold c24 at e; cases e; exact ⟨_, Try.func24, k24⟩
  | 25, h => have e : c25 = .code np nt b rs own := Option.some.inj h; unfold c25 at e; cases e; exact ⟨_, Try.func25, k25⟩
  | 26, h => have e : c26 = .code np nt b rs own := Option.some.inj h; unfold c26 at e; cases e; exact ⟨_, Try.func26, k26⟩
  | 27, h => have e : c27 = .code np nt b rs own := Option.some.inj h; unfold c27 at e; cases e; exact ⟨_, Try.func27, k27⟩
  | 28, h => have e : c28 = .code np nt b rs own := Option.some.inj h; unfold c28 at e; cases e; exact ⟨_, Try.func28, k28⟩
  | 29, h => have e : c29 = .code np nt b rs own := Option.some.inj h; unfold c29 at e; cases e; exact ⟨_, Try.func29, k29⟩
  | 30, h => have e : c30 = .code np nt b rs own := Option.some.inj h; unfold c30 at e; cases e; exact ⟨_, Try.func30, k30⟩
  | 31, h => have e : c31 = .code np nt b rs own := Option.some.inj h; unfold c31 at e; cases e; exact ⟨_, Try.func31, k31⟩
  | 32, h => have e : c32 = .code np nt b rs own := Option.some.inj h; unfold c32 at e; cases e; exact ⟨_, Try.func32, k32⟩
  | 33, h => have e : c33 = .code np nt b rs own := Option.some.inj h; unfold c33 at e; cases e; exact ⟨_, Try.func33, k33⟩
  | 34, h => have e : c34 = .code np nt b rs own := Option.some.inj h; unfold c34 at e; cases e; exact ⟨_, Try.func34, k34⟩
  | 35, h => have e : c35 = .code np nt b rs own := Option.some.inj h; unfold c35 at e; cases e; exact ⟨_, Try.func35, k35⟩
  | 36, h => have e : c36 = .code np nt b rs own := Option.some.inj h; unfold c36 at e; cases e; exact ⟨_, Try.func36, k36⟩
  | 37, h => have e : c37 = .code np nt b rs own := Option.some.inj h; unfold c37 at e; cases e; exact ⟨_, Try.func37, k37⟩
  | 38, h => have e : c38 = .code np nt b rs own := Option.some.inj h; unfold c38 at e; cases e; exact ⟨_, Try.func38, k38⟩
  | 39, h => have e : c39 = .code np nt b rs own := Option.some.inj h; unfold c39 at e; cases e; exact ⟨_, Try.func39, k39⟩
  | 40, h => have e : c40 = .code np nt b rs own := Option.some.inj h; unfold c40 at e; cases e; exact ⟨_, Try.func40, k40⟩
  | 41, h => have e : c41 = .code np nt b rs own := Option.some.inj h; unfold c41 at e; cases e; exact ⟨_, Try.func41, k41⟩
  | 42, h => have e : c42 = .code np nt b rs own := Option.some.inj h; unfold c42 at e; cases e; exact ⟨_, Try.func42, k42⟩
  | 43, h => have e : c43 = .code np nt b rs own := Option.some.inj h; unfold c43 at e; cases e; exact ⟨_, Try.func43, k43⟩
  | 44, h => have e : c44 = .code np nt b rs own := Option.some.inj h; unfold c44 at e; cases e; exact ⟨_, Try.func44, k44⟩
  | 45, h => have e : c45 = .code np nt b rs own := Option.some.inj h; unfold c45 at e; cases e; exact ⟨_, Try.func45, k45⟩
  | 46, h => have e : c46 = .code np nt b rs own := Option.some.inj h; unfold c46 at e; cases e; exact ⟨_, Try.func46, k46⟩
  | 47, h => have e : c47 = .code np nt b rs own := Option.some.inj h; unfold c47 at e; cases e; exact ⟨_, Try.func47, k47⟩
  | 48, h => have e : c48 = .code np nt b rs own := Option.some.inj h; unfold c48 at e; cases e; exact ⟨_, Try.func48, k48⟩
  | 49, h => have e : c49 = .code np nt b rs own := Option.some.inj h; unfold c49 at e; cases e; exact ⟨_, Try.func49, k49⟩
  | 50, h => have e : c50 = .code np nt b rs own := Option.some.inj h; unfold c50 at e; cases e; exact ⟨_, Try.func50, k50⟩
  | 51, h => have e : c51 = .code np nt b rs own := Option.some.inj h; unfold c51 at e; cases e; exact ⟨_, Try.func51, k51⟩
  | 52, h => have e : c52 = .code np nt b rs own := Option.some.inj h; unfold c52 at e; cases e; exact ⟨_, Try.func52, k52⟩
  | 53, h => have e : c53 = .code np nt b rs own := Option.some.inj h; unfold c53 at e; cases e; exact ⟨_, Try.func53, k53⟩
  | 54, h => have e : c54 = .code np nt b rs own := Option.some.inj h; unfold c54 at e; cases e; exact ⟨_, Try.func54, k54⟩
  | 55, h => have e : c55 = .code np nt b rs own := Option.some.inj h; unfold c55 at e; cases e; exact ⟨_, Try.func55, k55⟩
  | 56, h => have e : c56 = .code np nt b rs own := Option.some.inj h; unfold c56 at e; cases e; exact ⟨_, Try.func56, k56⟩
  | 57, h => have e : c57 = .code np nt b rs own := Option.some.inj h; unfold c57 at e; cases e; exact ⟨_, Try.func57, k57⟩
  | 58, h => have e : c58 = .code np nt b rs own := Option.some.inj h; unfold c58 at e; cases e; exact ⟨_, Try.func58, k58⟩
  | 59, h => have e : c59 = .code np nt b rs own := Option.some.inj h; unfold c59 at e; cases e; exact ⟨_, Try.func59, k59⟩
  | m + 60, h => have e : AP (m + 60) = none := rfl; rw [e] at h; cases h

theorem prim_ok (f : FuncId) (F : List AV → Option AV) (h : AP f = some (.prim F)) : HasBody Try.prog f ∧ PrimOk Try.prog f F := by
  match f, h with
  | 0, h => have e : AP 0 = none := rfl; rw [e] at h; cases h
  | 1, h => have e : AP 1 = none := rfl; rw [e] at h; cases h
  | 2, h => have e : AP 2 = none := rfl; rw [e] at h; cases h
  | 3, h => have e : c3 = .prim F := Option.some.inj h; unfold c3 at e; cases e
  | 4, h => have e : c4 = .prim F := Option.some.inj h; unfold c4 at e; cases e
  | 5, h => have e : c5 = .prim F := Option.some.inj h; unfold c5 at e; cases e
  | 6, h => have e : c6 = .prim F := Option.some.inj h; unfold c6 at e; cases e
  | 7, h => have e : c7 = .prim F := Option.some.inj h; unfold c7 at e; cases e
  | 8, h => have e : c8 = .prim F := Option.some.inj h; unfold c8 at e; cases e
  | 9, h => have e : c9 = .prim F := Option.some.inj h; unfold c9 at e; cases e
  | 10, h => have e : c10 = .prim F := Option.some.inj h; unfold c10 at e; cases e
  | 11, h => have e : c11 = .prim F := Option.some.inj h; unfold c11 at e; cases e
  | 12, h => have e : c12 = .prim F := Option.some.inj h; unfold c12 at e; cases e
  | 13, h => have e : c13 = .prim F := Option.some.inj h; unfold c13 at e; cases e
  | 14, h => have e : c14 = .prim F := Option.some.inj h; unfold c14 at e; cases e
  | 15, h => have e : c15 = .prim F := Option.some.inj h; unfold c15 at e; cases e
  | 16, h => have e : c16 = .prim F := Option.some.inj h; unfold c16 at e; cases e
  | 17, h => have e : c17 = .prim F := Option.some.inj h; unfold c17 at e; cases e
  | 18, h => have e : c18 = .prim F := Option.some.inj h; unfold c18 at e; cases e
  | 19, h => have e : c19 = .prim F := Option.some.inj h; unfold c19 at e; cases e
  | 20, h => have e : c20 = .prim F := Option.some.inj h; unfold c20 at e; cases e
  | 21, h => have e : c21 = .prim F := Option.some.inj h; unfold c21 at e; cases e
  | 22, h => have e : c22 = .prim F := Option.some.inj h; unfold c22 at e; cases e
  | 23, h => have e : c23 = .prim F := Option.some.inj h; unfold c23 at e; cases e
  | 24, h => have e : c24 = .prim F := Option.some.inj h; unfold c24 at e; cases e
  | 25, h => have e : c25 = .prim F := Option.some.inj h; unfold c25 at e; cases e
  | 26, h => have e : c26 = .prim F := Option.some.inj h; unfold c26 at e; cases e
  | 27, h => have e : c27 = .prim F := Option.some.inj h; unfold c27 at e; cases e
  | 28, h => have e : c28 = .prim F := Option.some.inj h; unfold c28 at e; cases e
  | 29, h => have e : c29 = .prim F := Option.some.inj h; unfold c29 at e; cases e
  | 30, h => have e : c30 = .prim F := Option.some.inj h; unfold c30 at e; cases e
  | 31, h => have e : c31 = .prim F := Option.some.inj h; unfold c31 at e; cases e
  | 32, h => have e : c32 = .prim F := Option.some.inj h; unfold c32 at e; cases e
  | 33, h => have e : c33 = .prim F := Option.some.inj h; unfold c33 at e; cases e
  | 34, h => have e : c34 = .prim F := Option.some.inj h; unfold c34 at e; cases e
  | 35, h => have e : c35 = .prim F := Option.some.inj h; unfold c35 at e; cases e
  | 36, h => have e : c36 = .prim F := Option.some.inj h; unfold c36 at e; cases e
  | 37, h => have e : c37 = .prim F := Option.some.inj h; unfold c37 at e; cases e
  | 38, h => have e : c38 = .prim F := Option.some.inj h; unfold c38 at e; cases e
  | 39, h => have e : c39 = .prim F := Option.some.inj h; unfold c39 at e; cases e
  | 40, h => have e : c40 = .prim F := Option.some.inj h; unfold c40 at e; cases e
  | 41, h => have e : c41 = .prim F := Option.some.inj h; unfold c41 at e; cases e
  | 42, h => have e : c42 = .prim F := Option.some.inj h; unfold c42 at e; cases e
  | 43, h => have e : c43 = .prim F := Option.some.inj h; unfold c43 at e; cases e
  | 44, h => have e : c44 = .prim F := Option.some.inj h; unfold c44 at e; cases e
  | 45, h => have e : c45 = .prim F := Option.some.inj h; unfold c45 at e; cases e
  | 46, h => have e : c46 = .prim F := Option.some.inj h; unfold c46 at e; cases e
  | 47, h => have e : c47 = .prim F := Option.some.inj h; unfold c47 at e; cases e
  | 48, h => have e : c48 = .prim F := Option.some.inj h; unfold c48 at e; cases e
  | 49, h => have e : c49 = .prim F := Option.some.inj h; unfold c49 at e; cases e
  | 50, h => have e : c50 = .prim F := Option.some.inj h; unfold c50 at e; cases e
  | 51, h => have e : c51 = .prim F := Option.some.inj h; unfold c51 at e; cases e
  | 52, h => have e : c52 = .prim F := Option.some.inj h; unfold c52 at e; cases e
  | 53, h => have e : c53 = .prim F := Option.some.inj h; unfold c53 at e; cases e
  | 54, h => have e : c54 = .prim F := Option.some.inj h; unfold c54 at e; cases e
  | 55, h => have e : c55 = .prim F := Option.some.inj h; unfold c55 at e; cases e
  | 56, h => have e : c56 = .prim F := Option.some.inj h; unfold c56 at e; cases e
  | 57, h => have e : c57 = .prim F := Option.some.inj h; unfold c57 at e; cases e
  | 58, h => have e : c58 = .prim F := Option.some.inj h; unfold c58 at e; cases e
  | 59, h => have e : c59 = .prim F := Option.some.inj h; unfold c59 at e; cases e
  | m + 60, h => have e : AP (m + 60) = none := rfl; rw [e] at h; cases h

theorem prog_ok : ProgOk Try.prog AP := ⟨by kernel_rfl, code_ok, prim_ok⟩
end Go.Proofs.Ytfmojojicndbcaa.AxOk
