/- The checks. No conditions. -/
import Derived.Test.YtpgojhgfhhgomaaIvRun2
import Derived.Test.YtpgojhgfhhgomaaIrTest
import Derived.Test.YtpgojhgfhhgomaaProg
namespace Go.Iv.Ir
open Go.Iv
set_option maxRecDepth 100000
theorem chk3 : chkFn Go.Proofs.Try.prog 3 i3 = true := by kernel_rfl
theorem chk4 : chkFn Go.Proofs.Try.prog 4 i4 = true := by kernel_rfl
theorem chk5 : chkFn Go.Proofs.Try.prog 5 i5 = true := by kernel_rfl
theorem chk6 : chkFn Go.Proofs.Try.prog 6 i6 = true := by kernel_rfl
theorem chk7 : chkFn Go.Proofs.Try.prog 7 i7 = true := by kernel_rfl
theorem chk8 : chkFn Go.Proofs.Try.prog 8 i8 = true := by kernel_rfl
theorem chk9 : chkFn Go.Proofs.Try.prog 9 i9 = true := by kernel_rfl
theorem chk10 : chkFn Go.Proofs.Try.prog 10 i10 = true := by kernel_rfl
theorem chk11 : chkFn Go.Proofs.Try.prog 11 i11 = true := by kernel_rfl
theorem chk12 : chkFn Go.Proofs.Try.prog 12 i12 = true := by kernel_rfl
theorem chk13 : chkFn Go.Proofs.Try.prog 13 i13 = true := by kernel_rfl
theorem chk14 : chkFn Go.Proofs.Try.prog 14 i14 = true := by kernel_rfl
theorem chk15 : chkFn Go.Proofs.Try.prog 15 i15 = true := by kernel_rfl
theorem chk16 : chkFn Go.Proofs.Try.prog 16 i16 = true := by kernel_rfl
theorem chk17 : chkFn Go.Proofs.Try.prog 17 i17 = true := by kernel_rfl
theorem chk18 : chkFn Go.Proofs.Try.prog 18 i18 = true := by kernel_rfl
theorem chk19 : chkFn Go.Proofs.Try.prog 19 i19 = true := by kernel_rfl
theorem chk20 : chkFn Go.Proofs.Try.prog 20 i20 = true := by kernel_rfl
theorem chk21 : chkFn Go.Proofs.Try.prog 21 i21 = true := by kernel_rfl
theorem chk22 : chkFn Go.Proofs.Try.prog 22 i22 = true := by kernel_rfl
theorem chk23 : chkFn Go.Proofs.Try.prog 23 i23 = true := by kernel_rfl
theorem chk24 : chkFn Go.Proofs.Try.prog 24 i24 = true := by kernel_rfl
theorem chk25 : chkFn Go.Proofs.Try.prog 25 i25 = true := by kernel_rfl
theorem chk26 : chkFn Go.Proofs.Try.prog 26 i26 = true := by kernel_rfl
theorem chk27 : chkFn Go.Proofs.Try.prog 27 i27 = true := by kernel_rfl
theorem chk28 : chkFn Go.Proofs.Try.prog 28 i28 = true := by kernel_rfl
theorem chk29 : chkFn Go.Proofs.Try.prog 29 i29 = true := by kernel_rfl
theorem chk30 : chkFn Go.Proofs.Try.prog 30 i30 = true := by kernel_rfl
theorem chk31 : chkFn Go.Proofs.Try.prog 31 i31 = true := by kernel_rfl
theorem chk32 : chkFn Go.Proofs.Try.prog 32 i32 = true := by kernel_rfl
theorem chk33 : chkFn Go.Proofs.Try.prog 33 i33 = true := by kernel_rfl
theorem chk34 : chkFn Go.Proofs.Try.prog 34 i34 = true := by kernel_rfl
theorem chk35 : chkFn Go.Proofs.Try.prog 35 i35 = true := by kernel_rfl
theorem chk36 : chkFn Go.Proofs.Try.prog 36 i36 = true := by kernel_rfl
theorem chk37 : chkFn Go.Proofs.Try.prog 37 i37 = true := by kernel_rfl
theorem chk38 : chkFn Go.Proofs.Try.prog 38 i38 = true := by kernel_rfl
theorem chk39 : chkFn Go.Proofs.Try.prog 39 i39 = true := by kernel_rfl
theorem chk40 : chkFn Go.Proofs.Try.prog 40 i40 = true := by kernel_rfl
theorem chk41 : chkFn Go.Proofs.Try.prog 41 i41 = true := by kernel_rfl
theorem chk42 : chkFn Go.Proofs.Try.prog 42 i42 = true := by kernel_rfl
theorem chk43 : chkFn Go.Proofs.Try.prog 43 i43 = true := by kernel_rfl
theorem chk44 : chkFn Go.Proofs.Try.prog 44 i44 = true := by kernel_rfl
theorem chk45 : chkFn Go.Proofs.Try.prog 45 i45 = true := by kernel_rfl
theorem chk46 : chkFn Go.Proofs.Try.prog 46 i46 = true := by kernel_rfl
theorem chk47 : chkFn Go.Proofs.Try.prog 47 i47 = true := by kernel_rfl
theorem chk48 : chkFn Go.Proofs.Try.prog 48 i48 = true := by kernel_rfl
theorem chk49 : chkFn Go.Proofs.Try.prog 49 i49 = true := by kernel_rfl
theorem chk50 : chkFn Go.Proofs.Try.prog 50 i50 = true := by kernel_rfl
theorem chk51 : chkFn Go.Proofs.Try.prog 51 i51 = true := by kernel_rfl
theorem chk52 : chkFn Go.Proofs.Try.prog 52 i52 = true := by kernel_rfl
theorem chk53 : chkFn Go.Proofs.Try.prog 53 i53 = true := by kernel_rfl
theorem chk54 : chkFn Go.Proofs.Try.prog 54 i54 = true := by kernel_rfl
theorem chk55 : chkFn Go.Proofs.Try.prog 55 i55 = true := by kernel_rfl
theorem chk56 : chkFn Go.Proofs.Try.prog 56 i56 = true := by kernel_rfl
theorem chk57 : chkFn Go.Proofs.Try.prog 57 i57 = true := by kernel_rfl
theorem chk58 : chkFn Go.Proofs.Try.prog 58 i58 = true := by kernel_rfl
theorem chk59 : chkFn Go.Proofs.Try.prog 59 i59 = true := by kernel_rfl
theorem chk60 : chkFn Go.Proofs.Try.prog 60 i60 = true := by kernel_rfl
theorem chk61 : chkFn Go.Proofs.Try.prog 61 i61 = true := by kernel_rfl
theorem chk62 : chkFn Go.Proofs.Try.prog 62 i62 = true := by kernel_rfl
theorem chk63 : chkFn Go.Proofs.Try.prog 63 i63 = true := by kernel_rfl
theorem chk64 : chkFn Go.Proofs.Try.prog 64 i64 = true := by kernel_rfl
theorem chk65 : chkFn Go.Proofs.Try.prog 65 i65 = true := by kernel_rfl
theorem chk66 : chkFn Go.Proofs.Try.prog 66 i66 = true := by kernel_rfl
theorem chk67 : chkFn Go.Proofs.Try.prog 67 i67 = true := by kernel_rfl
theorem chk68 : chkFn Go.Proofs.Try.prog 68 i68 = true := by kernel_rfl
theorem chk69 : chkFn Go.Proofs.Try.prog 69 i69 = true := by kernel_rfl
theorem chk70 : chkFn Go.Proofs.Try.prog 70 i70 = true := by kernel_rfl
theorem chk71 : chkFn Go.Proofs.Try.prog 71 i71 = true := by kernel_rfl
theorem chk72 : chkFn Go.Proofs.Try.prog 72 i72 = true := by kernel_rfl
theorem chk73 : chkFn Go.Proofs.Try.prog 73 i73 = true := by kernel_rfl
theorem chk74 : chkFn Go.Proofs.Try.prog 74 i74 = true := by kernel_rfl
theorem chk75 : chkFn Go.Proofs.Try.prog 75 i75 = true := by kernel_rfl
theorem chk76 : chkFn Go.Proofs.Try.prog 76 i76 = true := by kernel_rfl
theorem chk77 : chkFn Go.Proofs.Try.prog 77 i77 = true := by kernel_rfl
theorem chk78 : chkFn Go.Proofs.Try.prog 78 i78 = true := by kernel_rfl
theorem chk79 : chkFn Go.Proofs.Try.prog 79 i79 = true := by kernel_rfl
theorem chk80 : chkFn Go.Proofs.Try.prog 80 i80 = true := by kernel_rfl
theorem chk81 : chkFn Go.Proofs.Try.prog 81 i81 = true := by kernel_rfl
theorem chk82 : chkFn Go.Proofs.Try.prog 82 i82 = true := by kernel_rfl
theorem chk83 : chkFn Go.Proofs.Try.prog 83 i83 = true := by kernel_rfl
theorem chk84 : chkFn Go.Proofs.Try.prog 84 i84 = true := by kernel_rfl
theorem chk85 : chkFn Go.Proofs.Try.prog 85 i85 = true := by kernel_rfl
theorem T_ok : ∀ k fi, T k = some fi → chkFn Go.Proofs.Try.prog k fi = true := by
  intro k fi h
  unfold T at h
  split at h
  · cases h; exact chk3
  · cases h; exact chk4
  · cases h; exact chk5
  · cases h; exact chk6
  · cases h; exact chk7
  · cases h; exact chk8
  · cases h; exact chk9
  · cases h; exact chk10
  · cases h; exact chk11
  · cases h; exact chk12
  · cases h; exact chk13
  · cases h; exact chk14
  · cases h; exact chk15
  · cases h; exact chk16
  · cases h; exact chk17
  · cases h; exact chk18
  · cases h; exact chk19
  · cases h; exact chk20
  · cases h; exact chk21
  · cases h; exact chk22
  · cases h; exact chk23
  · cases h; exact chk24
  · cases h; exact chk25
  · cases h; exact chk26
  · cases h; exact chk27
  · cases h; exact chk28
  · cases h; exact chk29
  · cases h; exact chk30
  · cases h; exact chk31
  · cases h; exact chk32
  · cases h; exact chk33
  · cases h; exact chk34
  · cases h; exact chk35
  · cases h; exact chk36
  · cases h; exact chk37
  · cases h; exact chk38
  · cases h; exact chk39
  · cases h; exact chk40
  · cases h; exact chk41
  · cases h; exact chk42
  · cases h; exact chk43
  · cases h; exact chk44
  · cases h; exact chk45
  · cases h; exact chk46
  · cases h; exact chk47
  · cases h; exact chk48
  · cases h; exact chk49
  · cases h; exact chk50
  · cases h; exact chk51
  · cases h; exact chk52
  · cases h; exact chk53
  · cases h; exact chk54
  · cases h; exact chk55
  · cases h; exact chk56
  · cases h; exact chk57
  · cases h; exact chk58
  · cases h; exact chk59
  · cases h; exact chk60
  · cases h; exact chk61
  · cases h; exact chk62
  · cases h; exact chk63
  · cases h; exact chk64
  · cases h; exact chk65
  · cases h; exact chk66
  · cases h; exact chk67
  · cases h; exact chk68
  · cases h; exact chk69
  · cases h; exact chk70
  · cases h; exact chk71
  · cases h; exact chk72
  · cases h; exact chk73
  · cases h; exact chk74
  · cases h; exact chk75
  · cases h; exact chk76
  · cases h; exact chk77
  · cases h; exact chk78
  · cases h; exact chk79
  · cases h; exact chk80
  · cases h; exact chk81
  · cases h; exact chk82
  · cases h; exact chk83
  · cases h; exact chk84
  · cases h; exact chk85
  · cases h
theorem mixed : Go.Proofs.Try.prog.follows .mixedOrders = true := by kernel_rfl
theorem sound (n : Nat) : CallOk Go.Proofs.Try.prog (CB Go.Proofs.Try.prog) (run T n) := run_sound mixed T_ok n
end Go.Iv.Ir
