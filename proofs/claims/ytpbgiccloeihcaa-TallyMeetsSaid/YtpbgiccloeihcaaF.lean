import Derived.Test.YtpbgiccloeihcaaTmD
import Derived.Test.YtpbgiccloeihcaaProg
import Derived.KernelRfl
open Go Go.Tl
namespace Go.Proofs.Ytpbgiccloeihcaa
theorem fol : Try.prog.follows .mixedOrders = true := by kernel_rfl
@[simp ↓] theorem lay3 (F : LK → Nat → List Value → Prop) : layF Try.prog 3 F = F (.one) 1 [.int .i64 0] := layF_of (by kernel_rfl) F
@[simp ↓] theorem und3 (F : TypeDesc → Prop) : undF Try.prog 3 F = F (.int .i64) := undF_of (by kernel_rfl) F
@[simp ↓] theorem lay4 (F : LK → Nat → List Value → Prop) : layF Try.prog 4 F = F (.one) 1 [.bool false] := layF_of (by kernel_rfl) F
@[simp ↓] theorem und4 (F : TypeDesc → Prop) : undF Try.prog 4 F = F .bool := undF_of (by kernel_rfl) F
@[simp ↓] theorem lay22 (F : LK → Nat → List Value → Prop) : layF Try.prog 22 F = F (.sl 2 32 [.bool false, .slice none 0 0]) 1 [.slice none 0 0] := layF_of (by kernel_rfl) F
@[simp ↓] theorem und22 (F : TypeDesc → Prop) : undF Try.prog 22 F = F (.slice 32) := undF_of (by kernel_rfl) F
@[simp ↓] theorem lay24 (F : LK → Nat → List Value → Prop) : layF Try.prog 24 F = F (.one) 1 [.pointer none] := layF_of (by kernel_rfl) F
@[simp ↓] theorem und24 (F : TypeDesc → Prop) : undF Try.prog 24 F = F (.pointer 46) := undF_of (by kernel_rfl) F
@[simp ↓] theorem lay26 (F : LK → Nat → List Value → Prop) : layF Try.prog 26 F = F (.sl 1 8 [.int .i64 0]) 1 [.slice none 0 0] := layF_of (by kernel_rfl) F
@[simp ↓] theorem und26 (F : TypeDesc → Prop) : undF Try.prog 26 F = F (.slice 3) := undF_of (by kernel_rfl) F
@[simp ↓] theorem lay28 (F : LK → Nat → List Value → Prop) : layF Try.prog 28 F = F (.st [(0, 1), (1, 1)] [false, false]) 2 [.slice none 0 0, .int .i64 0] := layF_of (by kernel_rfl) F
@[simp ↓] theorem lay32 (F : LK → Nat → List Value → Prop) : layF Try.prog 32 F = F (.st [(0, 1), (1, 1)] [false, false]) 2 [.bool false, .slice none 0 0] := layF_of (by kernel_rfl) F
@[simp ↓] theorem lay44 (F : LK → Nat → List Value → Prop) : layF Try.prog 44 F = F (.ar 3 1 false) 3 [.int .i64 0, .int .i64 0, .int .i64 0] := layF_of (by kernel_rfl) F
@[simp ↓] theorem und44 (F : TypeDesc → Prop) : undF Try.prog 44 F = F (.array 3 3) := undF_of (by kernel_rfl) F
@[simp ↓] theorem lay46 (F : LK → Nat → List Value → Prop) : layF Try.prog 46 F = F (.st [(0, 1), (1, 3), (4, 1)] [false, true, false]) 5 [.slice none 0 0, .int .i64 0, .int .i64 0, .int .i64 0, .int .i64 0] := layF_of (by kernel_rfl) F
theorem en2 : enterable Try.prog 2 = true := by kernel_rfl
theorem en3 : enterable Try.prog 3 = true := by kernel_rfl
theorem en4 : enterable Try.prog 4 = true := by kernel_rfl
theorem en5 : enterable Try.prog 5 = true := by kernel_rfl
theorem en6 : enterable Try.prog 6 = true := by kernel_rfl
theorem en7 : enterable Try.prog 7 = true := by kernel_rfl
theorem en8 : enterable Try.prog 8 = true := by kernel_rfl
theorem en9 : enterable Try.prog 9 = true := by kernel_rfl
theorem en10 : enterable Try.prog 10 = true := by kernel_rfl
theorem en11 : enterable Try.prog 11 = true := by kernel_rfl
theorem en12 : enterable Try.prog 12 = true := by kernel_rfl
theorem en13 : enterable Try.prog 13 = true := by kernel_rfl
theorem en14 : enterable Try.prog 14 = true := by kernel_rfl
theorem en15 : enterable Try.prog 15 = true := by kernel_rfl
theorem en16 : enterable Try.prog 16 = true := by kernel_rfl
theorem en17 : enterable Try.prog 17 = true := by kernel_rfl
theorem en18 : enterable Try.prog 18 = true := by kernel_rfl
theorem en19 : enterable Try.prog 19 = true := by kernel_rfl
theorem en20 : enterable Try.prog 20 = true := by kernel_rfl
theorem en21 : enterable Try.prog 21 = true := by kernel_rfl
theorem en22 : enterable Try.prog 22 = true := by kernel_rfl
theorem en23 : enterable Try.prog 23 = true := by kernel_rfl
theorem en24 : enterable Try.prog 24 = true := by kernel_rfl
theorem en25 : enterable Try.prog 25 = true := by kernel_rfl
def lv2 : Nat → List Nat
  | _ => []
def dm2 : Nat → List Nat × List Nat := fun _ => ([], [])
def dr2 : Nat → List Nat := fun _ => []
def dq2 : Nat → List Nat := fun _ => []
def lv3 : Nat → List Nat
  | 3 => [0, 1, 2]
  | 7 => [0, 1, 2]
  | 13 => [0, 1, 2, 15]
  | 53 => [6]
  | 15 => [0, 1, 2, 7]
  | 31 => [2, 7, 8]
  | 63 => [2, 7, 8]
  | 125 => [2, 7, 8, 23]
  | 501 => [6]
  | 127 => [2, 7, 8]
  | 255 => [7, 8]
  | 509 => [2, 7, 8, 9]
  | 2036 => [2, 7, 8, 9]
  | 4073 => [2, 7, 8, 9]
  | 8145 => [2, 7, 8, 9, 29]
  | 8147 => [2, 7, 8, 9]
  | 32585 => [2, 7, 8, 9]
  | 65169 => [2, 7, 8, 9, 38]
  | 260677 => [6]
  | 65171 => [2, 7, 8, 9]
  | 130343 => [2, 7, 8, 9]
  | 260685 => [2, 7, 8, 9, 10]
  | 1042740 => [2, 7, 8, 9, 10]
  | 2085481 => [2, 7, 8, 9, 10]
  | 4170961 => [2, 7, 8, 9, 10, 52]
  | 4170963 => [2, 7, 8, 9, 10]
  | 16683849 => [2, 7, 8, 9, 10, 11]
  | 33367699 => [2, 7, 8, 9, 10, 11]
  | 66735397 => [2, 7, 8, 9, 10, 11, 59]
  | 260687 => [2, 7, 8, 9, 12, 13]
  | 521375 => [2, 7, 8, 9, 109]
  | 2085501 => [6]
  | 511 => [6]
  | _ => []
def dm3 : Nat → List Nat × List Nat
  | 20 => ([0, 1, 2, 3, 4, 5, 6, 7, 8, 9], [10, 11])
  | _ => ([], [])
def dr3 : Nat → List Nat := fun _ => []
def dq3 : Nat → List Nat
  | 22 => [0, 1, 2, 3, 4, 5, 6, 7, 8, 9, 10, 11, 12, 13, 15, 14, 16, 17, 18, 19, 20, 22, 21, 23, 24, 25, 26, 27, 29, 28, 30, 31, 32, 33]
  | 24 => [0, 2, 1, 3, 4, 5, 6, 8, 7, 9, 10, 11, 12, 13, 15, 14, 16, 17, 18, 19]
  | _ => []
def lv4 : Nat → List Nat
  | 3 => [0, 1, 2]
  | 7 => [0, 1, 2]
  | 13 => [0, 1, 2, 12]
  | 53 => [6]
  | 15 => [2, 7]
  | 31 => [2, 7]
  | 61 => [2, 7, 17]
  | 245 => [6]
  | 63 => [2, 7]
  | 127 => [2, 7, 8]
  | 255 => [2, 7, 8, 9]
  | 1021 => [2, 7, 8, 9, 10]
  | 4084 => [2, 7, 8, 9, 10]
  | 8169 => [2, 7, 8, 9, 10]
  | 16337 => [2, 7, 8, 9, 10, 27]
  | 16339 => [2, 7, 8, 9, 10]
  | 65353 => [2, 7, 8, 9, 10]
  | 130705 => [2, 7, 8, 9, 10, 36]
  | 522821 => [6]
  | 130707 => [2, 7, 8, 9, 10]
  | 261415 => [2, 7, 10]
  | 522829 => [2, 7, 10, 64]
  | 2091317 => [6]
  | 522831 => [2, 7, 8, 10]
  | 1023 => [6]
  | _ => []
def dm4 : Nat → List Nat × List Nat := fun _ => ([], [])
def dr4 : Nat → List Nat := fun _ => []
def dq4 : Nat → List Nat := fun _ => []
def lv5 : Nat → List Nat
  | 3 => [0, 1, 2, 3]
  | 7 => [0, 1, 2, 3]
  | 13 => [0, 1, 2, 3, 20]
  | 53 => [8]
  | 15 => [0, 1, 2, 3]
  | 29 => [0, 1, 2, 3, 28]
  | 117 => [8]
  | 31 => [0, 1, 2, 3]
  | 61 => [0, 1, 2, 3, 9]
  | 244 => [0, 1, 2, 3, 9]
  | 489 => [0, 1, 2, 3, 9]
  | 977 => [0, 1, 2, 3, 9, 32]
  | 979 => [0, 1, 2, 3, 9]
  | 3913 => [0, 1, 2, 3, 9, 10]
  | 15652 => [0, 1, 2, 3, 9, 10]
  | 31305 => [0, 1, 2, 3, 9, 10]
  | 62609 => [0, 1, 2, 3, 9, 10, 38]
  | 62611 => [0, 1, 2, 3, 9, 10]
  | 250441 => [0, 1, 2, 3, 9, 10, 49]
  | 1001765 => [8]
  | 63 => [0, 1, 2, 3, 11]
  | 127 => [2, 3, 11, 12]
  | 255 => [2, 3, 11, 12]
  | 509 => [2, 3, 11, 12, 61]
  | 2037 => [8]
  | 511 => [2, 3, 11, 12]
  | 1023 => [2, 3, 11, 12]
  | 2047 => [2, 11, 12]
  | 4093 => [2, 3, 11, 12, 13]
  | 16372 => [2, 3, 11, 12, 13]
  | 32745 => [2, 3, 11, 12, 13]
  | 65489 => [2, 3, 11, 12, 13, 74]
  | 65491 => [2, 3, 11, 12, 13]
  | 4095 => [11, 12]
  | 8189 => [2, 11, 12, 14]
  | 32756 => [2, 11, 12, 14]
  | 65513 => [2, 11, 12, 14]
  | 131025 => [2, 11, 12, 14, 92]
  | 131027 => [2, 11, 12, 14]
  | 524105 => [2, 11, 12, 14]
  | 8191 => [11, 12, 15, 16]
  | 16383 => [11, 12, 15, 16, 17, 18]
  | 32767 => [8]
  | _ => []
def dm5 : Nat → List Nat × List Nat := fun _ => ([], [])
def dr5 : Nat → List Nat := fun _ => []
def dq5 : Nat → List Nat
  | 22 => [0, 1, 2, 3, 4, 5, 6, 7, 8, 9, 10]
  | _ => []
def lv6 : Nat → List Nat
  | 3 => [0, 1, 2, 3, 4]
  | 7 => [0, 1, 2, 3, 4]
  | 13 => [0, 1, 2, 3, 4, 16]
  | 53 => [10]
  | 15 => [0, 1, 2, 3, 4]
  | 29 => [0, 1, 2, 3, 4, 55]
  | 117 => [10]
  | 31 => [0, 2, 3, 4, 11]
  | 63 => [0, 3, 4, 11, 12]
  | 127 => [0, 3, 4, 11, 12]
  | 253 => [0, 3, 4, 11, 12, 67]
  | 1013 => [10]
  | 255 => [0, 3, 4, 11, 12]
  | 511 => [0, 3, 4, 11, 12]
  | 1023 => [0, 3, 4]
  | 2045 => [0, 3, 4, 83]
  | 8181 => [10]
  | 4093 => [0, 3, 4, 13]
  | 16372 => [0, 3, 4, 13]
  | 32745 => [0, 3, 4, 13]
  | 65489 => [0, 3, 4, 13, 87]
  | 65491 => [0, 3, 4, 13]
  | 261961 => [0, 3, 4, 13, 14]
  | 1047844 => [0, 3, 4, 13, 14]
  | 2095689 => [0, 3, 4, 13, 14]
  | 4191377 => [0, 3, 4, 13, 14, 93]
  | 4191379 => [0, 3, 4, 13, 14]
  | 16765513 => [0, 3, 4, 13, 14, 119]
  | 67062053 => [10]
  | 4095 => [10]
  | _ => []
def dm6 : Nat → List Nat × List Nat := fun _ => ([], [])
def dr6 : Nat → List Nat := fun _ => []
def dq6 : Nat → List Nat := fun _ => []
def lv7 : Nat → List Nat
  | 3 => [0, 1, 2]
  | 7 => [0, 1, 2]
  | 13 => [0, 1, 2, 18]
  | 53 => [6]
  | 15 => [0, 2, 7]
  | 31 => [0, 2, 7]
  | 61 => [0, 2, 7, 23]
  | 245 => [6]
  | 63 => [0, 2, 7]
  | 127 => [0, 7]
  | 253 => [0, 2, 7, 8]
  | 1012 => [0, 2, 7, 8]
  | 2025 => [0, 2, 7, 8]
  | 4049 => [0, 2, 7, 8, 29]
  | 4051 => [0, 2, 7, 8]
  | 16201 => [0, 2, 7, 8]
  | 32401 => [0, 2, 7, 8, 38]
  | 129605 => [6]
  | 255 => [7, 9]
  | 511 => [7, 9]
  | 1021 => [7, 9, 47]
  | 1023 => [7, 9]
  | 2045 => [7, 9, 49]
  | 2047 => [7, 9, 10, 11]
  | 4095 => [7, 9, 10, 11, 12]
  | 8191 => [7, 9, 10, 11, 12, 13]
  | 16383 => [7, 9, 10, 11, 12, 13]
  | 32765 => [7, 9, 10, 11, 12, 13, 14]
  | 131060 => [7, 9, 10, 11, 12, 13, 14]
  | 262121 => [7, 9, 10, 11, 12, 13, 14]
  | 524241 => [7, 9, 10, 11, 12, 13, 14, 61]
  | 524243 => [7, 9, 10, 11, 12, 13, 14]
  | 2096969 => [7, 9, 10, 11, 12, 13, 14, 92]
  | 8387877 => [6]
  | 32767 => [7, 9, 10, 11, 13]
  | 65533 => [7, 9, 10, 11, 12, 13, 15]
  | 262132 => [7, 9, 10, 11, 12, 13, 15]
  | 524265 => [7, 9, 10, 11, 12, 13, 15]
  | 1048529 => [7, 9, 10, 11, 12, 13, 15, 95]
  | 1048531 => [7, 9, 10, 11, 12, 13, 15]
  | 65535 => [9, 10, 11, 13, 16]
  | 131071 => [6]
  | _ => []
def dm7 : Nat → List Nat × List Nat := fun _ => ([], [])
def dr7 : Nat → List Nat := fun _ => []
def dq7 : Nat → List Nat := fun _ => []
def lv8 : Nat → List Nat
  | 7 => [1]
  | 15 => [1]
  | 29 => [1, 10]
  | 117 => [0]
  | 31 => [1]
  | 63 => [1]
  | 127 => [1, 2, 3]
  | 255 => [1]
  | 509 => [1, 42]
  | 2037 => [0]
  | 511 => [1]
  | 1023 => [0]
  | _ => []
def dm8 : Nat → List Nat × List Nat := fun _ => ([], [])
def dr8 : Nat → List Nat := fun _ => []
def dq8 : Nat → List Nat := fun _ => []
def lv9 : Nat → List Nat
  | 3 => [0, 1]
  | 7 => [1, 5]
  | 15 => [5, 6]
  | 31 => [6]
  | 63 => [4]
  | _ => []
def dm9 : Nat → List Nat × List Nat := fun _ => ([], [])
def dr9 : Nat → List Nat := fun _ => []
def dq9 : Nat → List Nat := fun _ => []
def lv10 : Nat → List Nat
  | 3 => [0, 1, 4]
  | 7 => [0, 4, 5]
  | 15 => [4, 5]
  | 29 => [0, 4, 5, 6]
  | 116 => [0, 4, 5, 6]
  | 233 => [0, 4, 5, 6]
  | 465 => [0, 4, 5, 6, 15]
  | 467 => [0, 4, 5, 6]
  | 31 => [4]
  | _ => []
def dm10 : Nat → List Nat × List Nat := fun _ => ([], [])
def dr10 : Nat → List Nat := fun _ => []
def dq10 : Nat → List Nat := fun _ => []
def lv11 : Nat → List Nat
  | 3 => [0]
  | 7 => [0]
  | 13 => [0, 5]
  | 53 => [2]
  | 15 => [2]
  | _ => []
def dm11 : Nat → List Nat × List Nat := fun _ => ([], [])
def dr11 : Nat → List Nat := fun _ => []
def dq11 : Nat → List Nat := fun _ => []
def lv12 : Nat → List Nat
  | 3 => [0, 3]
  | 7 => [0, 3, 5]
  | _ => []
def dm12 : Nat → List Nat × List Nat := fun _ => ([], [])
def dr12 : Nat → List Nat := fun _ => []
def dq12 : Nat → List Nat := fun _ => []
def lv13 : Nat → List Nat
  | 3 => [1, 2, 3, 6]
  | 7 => [1, 2, 3, 6]
  | 13 => [1, 2, 3, 6, 24]
  | 53 => [6]
  | 15 => [1, 2, 3, 6, 7]
  | 31 => [3, 6, 7]
  | 63 => [3, 6]
  | 127 => [6]
  | _ => []
def dm13 : Nat → List Nat × List Nat := fun _ => ([], [])
def dr13 : Nat → List Nat := fun _ => []
def dq13 : Nat → List Nat := fun _ => []
def lv14 : Nat → List Nat
  | 3 => [0]
  | 7 => [2, 3]
  | _ => []
def dm14 : Nat → List Nat × List Nat := fun _ => ([], [])
def dr14 : Nat → List Nat := fun _ => []
def dq14 : Nat → List Nat := fun _ => []
def lv15 : Nat → List Nat
  | 3 => [1, 2]
  | 7 => [1, 2, 5]
  | 15 => [5]
  | 29 => [1, 2, 5, 6]
  | 116 => [1, 2, 5, 6]
  | 233 => [1, 2, 5, 6]
  | 465 => [1, 2, 5, 6, 12]
  | 467 => [1, 2, 5, 6]
  | 1865 => [1, 2, 5, 6, 21]
  | 31 => [4]
  | _ => []
def dm15 : Nat → List Nat × List Nat := fun _ => ([], [])
def dr15 : Nat → List Nat := fun _ => []
def dq15 : Nat → List Nat := fun _ => []
def lv16 : Nat → List Nat
  | 3 => [0]
  | 7 => [2]
  | _ => []
def dm16 : Nat → List Nat × List Nat := fun _ => ([], [])
def dr16 : Nat → List Nat := fun _ => []
def dq16 : Nat → List Nat := fun _ => []
def lv17 : Nat → List Nat
  | 3 => [1]
  | 7 => [2]
  | _ => []
def dm17 : Nat → List Nat × List Nat := fun _ => ([], [])
def dr17 : Nat → List Nat := fun _ => []
def dq17 : Nat → List Nat
  | 1 => [0, 3, 4, 1, 2, 5, 6]
  | _ => []
def lv18 : Nat → List Nat
  | 3 => [0]
  | 7 => [2]
  | _ => []
def dm18 : Nat → List Nat × List Nat := fun _ => ([], [])
def dr18 : Nat → List Nat := fun _ => []
def dq18 : Nat → List Nat := fun _ => []
def lv19 : Nat → List Nat
  | 3 => [1]
  | 7 => [2]
  | _ => []
def dm19 : Nat → List Nat × List Nat := fun _ => ([], [])
def dr19 : Nat → List Nat := fun _ => []
def dq19 : Nat → List Nat
  | 1 => [0, 3, 7, 8, 1, 2, 4, 5, 6, 9, 10]
  | _ => []
def lv20 : Nat → List Nat
  | 3 => [0, 1]
  | 7 => [0, 1]
  | 13 => [0, 1, 10]
  | 53 => [4]
  | 29 => [0, 1, 5]
  | 116 => [0, 1, 5]
  | 233 => [0, 1, 5]
  | 465 => [0, 1, 5, 14]
  | 467 => [0, 1, 5]
  | 1865 => [0, 1, 5, 25]
  | 7461 => [4]
  | 31 => [4]
  | _ => []
def dm20 : Nat → List Nat × List Nat := fun _ => ([], [])
def dr20 : Nat → List Nat := fun _ => []
def dq20 : Nat → List Nat := fun _ => []
def lv21 : Nat → List Nat
  | 3 => [0]
  | 7 => [0, 3]
  | 15 => [3]
  | 29 => [3, 9, 10, 11]
  | 116 => [3, 9, 10, 11]
  | 233 => [3, 9, 10, 11, 12]
  | 467 => [3, 9, 10, 11]
  | 935 => [3, 9, 10, 11]
  | 3737 => [3, 4, 5, 9, 10, 11]
  | 7475 => [3, 4, 9, 10, 11, 17]
  | 31 => [2]
  | _ => []
def dm21 : Nat → List Nat × List Nat := fun _ => ([], [])
def dr21 : Nat → List Nat := fun _ => []
def dq21 : Nat → List Nat := fun _ => []
def lv22 : Nat → List Nat
  | _ => []
def dm22 : Nat → List Nat × List Nat := fun _ => ([], [])
def dr22 : Nat → List Nat := fun _ => []
def dq22 : Nat → List Nat := fun _ => []
def lv23 : Nat → List Nat
  | 3 => [0]
  | 7 => [0, 3]
  | 15 => [3]
  | 31 => [2]
  | _ => []
def dm23 : Nat → List Nat × List Nat := fun _ => ([], [])
def dr23 : Nat → List Nat := fun _ => []
def dq23 : Nat → List Nat := fun _ => []
def lv24 : Nat → List Nat
  | _ => []
def dm24 : Nat → List Nat × List Nat := fun _ => ([], [])
def dr24 : Nat → List Nat := fun _ => []
def dq24 : Nat → List Nat := fun _ => []
def lv25 : Nat → List Nat
  | 3 => [0, 1, 8, 9, 10]
  | 12 => [0, 1, 8, 9, 10]
  | 25 => [0, 1, 8, 9, 10, 11]
  | 51 => [0, 1, 8, 9, 10]
  | 103 => [0, 1, 8, 9, 10]
  | 409 => [0, 1, 7, 8, 9, 10]
  | 819 => [0, 1, 7, 8, 9, 10]
  | 1637 => [0, 1, 7, 8, 9, 10, 34]
  | 1639 => [0, 1, 8, 9, 10]
  | 3279 => [0, 1, 8, 9, 10]
  | _ => []
def dm25 : Nat → List Nat × List Nat := fun _ => ([], [])
def dr25 : Nat → List Nat
  | 5 => [0, 1, 2, 3, 6, 7, 4, 5, 8, 9]
  | 6 => [0, 1, 2, 3, 4, 7, 8, 5, 6, 9, 10]
  | _ => []
def dq25 : Nat → List Nat := fun _ => []
end Go.Proofs.Ytpbgiccloeihcaa
