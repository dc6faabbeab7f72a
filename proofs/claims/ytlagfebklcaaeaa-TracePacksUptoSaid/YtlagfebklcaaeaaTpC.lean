/- Compiled code of functions, by program; each is what the compiler gives, by the kernel. -/
import Derived.Test.YtlagfebklcaaeaaA28
import Derived.Test.YtlagfebklcaaeaaProg
namespace Go.Proofs.Ytlagfebklcaaeaa
set_option linter.all false
/-- bakelite/trace.Pack -/
def ic7 : IFn := ⟨43,
  (.seq
  (.region [⟨(some 2), none, (.mv (.c (.sl 0 true [])))⟩])
  (.seq
  (.region [⟨(some 3), none, (.mv (.c (.sl 0 true [])))⟩])
  (.seq
  (.seq
  (.region [⟨(some 7), none, (.mv (.t 0))⟩,
    ⟨(some 8), none, (.len (.t 7))⟩,
    ⟨(some 9), none, (.mv (.c (.int .i64 0)))⟩])
  (.block 0
  (.loop
  (.seq
  (.region [⟨(some 10), none, (.bin .lss (.t 9) (.t 8))⟩])
  (.seq
  (.cond (.t 10) .skip (.exit 0))
  (.seq
  (.block 1
  (.seq
  (.region [⟨(some 11), none, (.ias 3 (.t 7) (.t 9))⟩,
    ⟨(some 12), none, (.load (some 3) (.t 11))⟩,
    ⟨(some 5), none, (.new 26 [(.int .i64 0), (.int .i64 0), (.int .i64 0)])⟩,
    ⟨none, none, (.store (some 3) (.t 5) (.t 12))⟩])
  (.seq
  (.seq
  (.region [⟨(some 13), none, (.mv (.t 3))⟩,
    ⟨(some 14), none, (.len (.t 13))⟩,
    ⟨(some 6), none, (.mv (.t 14))⟩])
  (.seq
  (.dregion [[], [0], [1, 0], [2, 1, 0], [2, 1, 0], [4, 2, 1, 0], [3, 2, 1, 0, 5, 4], [6, 3, 2, 1, 0, 5, 4], [7, 6, 3, 2, 1, 0, 5, 4], [2, 1, 0], [8, 7, 6, 3, 2, 1, 0, 5, 4, 9], [2, 1, 0, 10, 8, 7, 6, 3, 5, 4, 9]] [⟨(some 15), none, (.mv (.t 6))⟩,
    ⟨(some 16), none, (.bin .gtr (.t 15) (.c (.int .i64 0)))⟩,
    ⟨(some 17), none, (.mv (.t 16))⟩,
    ⟨(some 18), (some (17, true)), (.mv (.t 3))⟩,
    ⟨(some 19), (some (17, true)), (.mv (.t 6))⟩,
    ⟨(some 20), (some (17, true)), (.bin .sub (.t 19) (.c (.int .i64 1)))⟩,
    ⟨(some 21), (some (17, true)), (.ias 4 (.t 18) (.t 20))⟩,
    ⟨(some 22), (some (17, true)), (.fadr 0 (.t 21))⟩,
    ⟨(some 23), (some (17, true)), (.load (some 3) (.t 22))⟩,
    ⟨(some 24), (some (17, true)), (.load (some 3) (.t 5))⟩,
    ⟨(some 25), (some (17, true)), (.eqa false [.i, .i, .i] (.t 23) (.t 24))⟩,
    ⟨(some 26), none, (.pick (.t 17) (.t 25) (.c (.bool false)))⟩])
  (.cond (.t 26)
  (.seq
  (.region [⟨(some 27), none, (.mv (.t 3))⟩,
    ⟨(some 28), none, (.mv (.t 6))⟩,
    ⟨(some 29), none, (.bin .sub (.t 28) (.c (.int .i64 1)))⟩,
    ⟨(some 30), none, (.ias 4 (.t 27) (.t 29))⟩,
    ⟨(some 31), none, (.fadr 3 (.t 30))⟩,
    ⟨(some 32), none, (.load none (.t 31))⟩,
    ⟨(some 33), none, (.bin .add (.t 32) (.c (.int .i64 1)))⟩,
    ⟨(some 34), none, (.ias 4 (.t 27) (.t 29))⟩,
    ⟨(some 35), none, (.fadr 3 (.t 34))⟩,
    ⟨none, none, (.store none (.t 35) (.t 33))⟩]) (.exit 1)) .skip)))
  (.region [⟨(some 36), none, (.mv (.t 3))⟩,
    ⟨(some 37), none, (.load (some 3) (.t 5))⟩,
    ⟨(some 38), none, (.build [(.int .i64 0), (.int .i64 0), (.int .i64 0), (.int .i64 0)] [(0, (3, (.t 37))), (3, (1, (.c (.int .i64 1))))])⟩,
    ⟨(some 39), none, (.bsl 28 4 [(.t 38)])⟩,
    ⟨(some 40), none, (.app 28 4 32 (.t 36) (.t 39))⟩,
    ⟨(some 3), none, (.mv (.t 40))⟩]))))
  (.region [⟨(some 41), none, (.bin .add (.t 9) (.c (.int .i64 1)))⟩,
    ⟨(some 9), none, (.mv (.t 41))⟩])))))))
  (.seq
  (.region [⟨(some 42), none, (.mv (.t 3))⟩,
    ⟨(some 2), none, (.mv (.t 42))⟩]) .ret)))), [(.t 2)]⟩
theorem cc7 : cFn Try.prog 7 = some ic7 := by kernel_rfl
/-- slices.Repeat[[]bakelite/api.Bus,bakelite/api.Bus] -/
def ic8 : IFn := ⟨48,
  (.seq
  (.region [⟨(some 4), none, (.mv (.c (.sl 0 true [])))⟩])
  (.seq
  (.seq
  (.region [⟨(some 9), none, (.mv (.t 1))⟩,
    ⟨(some 10), none, (.bin .lss (.t 9) (.c (.int .i64 0)))⟩])
  (.cond (.t 10)
  (.region [⟨(some 11), none, (.mki 9 (.c (.str (B [99, 97, 110, 110, 111, 116, 32, 98, 101, 32, 110, 101, 103, 97, 116, 105, 118, 101]))))⟩,
    ⟨none, none, .dead⟩]) .skip))
  (.seq
  (.region [⟨(some 13), none, (.mv (.t 0))⟩,
    ⟨(some 14), none, (.len (.t 13))⟩,
    ⟨(some 15), none, (.cvi .u64 (.t 14))⟩,
    ⟨(some 16), none, (.mv (.t 1))⟩,
    ⟨(some 17), none, (.cvi .u64 (.t 16))⟩,
    ⟨(some 18), none, (.call 38 [(.t 15), (.t 17)])⟩,
    ⟨(some 12), none, (.mv (.t 18))⟩,
    ⟨(some 19), none, (.ext (.t 12) 0)⟩,
    ⟨(some 20), none, (.ext (.t 12) 1)⟩,
    ⟨(some 5), none, (.mv (.t 19))⟩,
    ⟨(some 6), none, (.mv (.t 20))⟩])
  (.seq
  (.seq
  (.region [⟨(some 21), none, (.mv (.t 5))⟩,
    ⟨(some 22), none, (.bin .gtr (.t 21) (.c (.int .u64 0)))⟩,
    ⟨(some 23), none, (.mv (.t 22))⟩,
    ⟨(some 24), (some (23, false)), (.mv (.t 6))⟩,
    ⟨(some 25), (some (23, false)), (.bin .gtr (.t 24) (.c (.int .u64 9223372036854775807)))⟩,
    ⟨(some 26), none, (.pick (.t 23) (.c (.bool true)) (.t 25))⟩])
  (.cond (.t 26)
  (.region [⟨(some 27), none, (.mki 9 (.c (.str (B [116, 104, 101, 32, 114, 101, 115, 117, 108, 116, 32, 111, 102, 32, 40, 108, 101, 110, 40, 120, 41, 32, 42, 32, 99, 111, 117, 110, 116, 41, 32, 111, 118, 101, 114, 102, 108, 111, 119, 115]))))⟩,
    ⟨none, none, .dead⟩]) .skip))
  (.seq
  (.region [⟨(some 28), none, (.mv (.t 6))⟩,
    ⟨(some 29), none, (.cvi .i64 (.t 28))⟩,
    ⟨(some 30), none, (.mks 26 3 24 [(.int .i64 0), (.int .i64 0), (.int .i64 0)] (.t 29) (.t 29))⟩,
    ⟨(some 7), none, (.mv (.t 30))⟩])
  (.seq
  (.region [⟨(some 31), none, (.mv (.t 7))⟩,
    ⟨(some 32), none, (.mv (.t 0))⟩,
    ⟨(some 33), none, (.cpy 3 (.t 31) (.t 32))⟩,
    ⟨(some 8), none, (.mv (.t 33))⟩])
  (.seq
  (.block 0
  (.loop
  (.seq
  (.seq
  (.region [⟨(some 34), none, (.mv (.t 8))⟩,
    ⟨(some 35), none, (.mv (.t 7))⟩,
    ⟨(some 36), none, (.len (.t 35))⟩,
    ⟨(some 37), none, (.bin .lss (.t 34) (.t 36))⟩])
  (.cond (.t 37) .skip (.exit 0)))
  (.block 1
  (.dregion [[], [], [], [1, 2], [], [], [4, 5], [3, 1, 2, 6, 4, 5], [0, 7, 3, 1, 2, 6, 4, 5], [8, 0, 7, 3, 1, 2, 6, 4, 5]] [⟨(some 38), none, (.mv (.t 8))⟩,
    ⟨(some 39), none, (.mv (.t 7))⟩,
    ⟨(some 40), none, (.mv (.t 8))⟩,
    ⟨(some 41), none, (.slc 3 (.t 39) (some (.t 40)) none)⟩,
    ⟨(some 42), none, (.mv (.t 7))⟩,
    ⟨(some 43), none, (.mv (.t 8))⟩,
    ⟨(some 44), none, (.slc 3 (.t 42) none (some (.t 43)))⟩,
    ⟨(some 45), none, (.cpy 3 (.t 41) (.t 44))⟩,
    ⟨(some 46), none, (.bin .add (.t 38) (.t 45))⟩,
    ⟨(some 8), none, (.mv (.t 46))⟩])))))
  (.seq
  (.region [⟨(some 47), none, (.mv (.t 7))⟩,
    ⟨(some 4), none, (.mv (.t 47))⟩]) .ret)))))))), [(.t 4)]⟩
theorem cc8 : cFn Try.prog 8 = some ic8 := by kernel_rfl
/-- bakelite/trace.Open -/
def ic9 : IFn := ⟨52,
  (.seq
  (.region [⟨(some 2), none, (.mv (.c (.sl 0 true [])))⟩,
    ⟨(some 3), none, (.mv (.c (.int .i64 0)))⟩])
  (.seq
  (.region [⟨(some 4), none, (.mv (.c (.int .i64 0)))⟩])
  (.seq
  (.seq
  (.region [⟨(some 10), none, (.mv (.t 0))⟩,
    ⟨(some 11), none, (.len (.t 10))⟩,
    ⟨(some 12), none, (.mv (.c (.int .i64 0)))⟩])
  (.block 0
  (.loop
  (.seq
  (.region [⟨(some 13), none, (.bin .lss (.t 12) (.t 11))⟩])
  (.seq
  (.cond (.t 13) .skip (.exit 0))
  (.seq
  (.block 1
  (.seq
  (.region [⟨(some 14), none, (.ias 4 (.t 10) (.t 12))⟩,
    ⟨(some 15), none, (.load (some 4) (.t 14))⟩,
    ⟨(some 6), none, (.new 28 [(.int .i64 0), (.int .i64 0), (.int .i64 0), (.int .i64 0)])⟩,
    ⟨none, none, (.store (some 4) (.t 6) (.t 15))⟩])
  (.seq
  (.seq
  (.region [⟨(some 16), none, (.fadr 3 (.t 6))⟩,
    ⟨(some 17), none, (.load none (.t 16))⟩,
    ⟨(some 18), none, (.bin .lss (.t 17) (.c (.int .i64 1)))⟩])
  (.cond (.t 18)
  (.seq
  (.region [⟨(some 2), none, (.mv (.c (.sl 0 true [])))⟩,
    ⟨(some 3), none, (.mv (.c (.int .i64 1)))⟩]) .ret) .skip))
  (.seq
  (.seq
  (.region [⟨(some 19), none, (.fadr 3 (.t 6))⟩,
    ⟨(some 20), none, (.load none (.t 19))⟩,
    ⟨(some 21), none, (.bin .gtr (.t 20) (.c (.int .i64 100000)))⟩,
    ⟨(some 22), none, (.mv (.t 21))⟩,
    ⟨(some 23), (some (22, false)), (.mv (.t 4))⟩,
    ⟨(some 24), (some (22, false)), (.fadr 3 (.t 6))⟩,
    ⟨(some 25), (some (22, false)), (.load none (.t 24))⟩,
    ⟨(some 26), (some (22, false)), (.bin .add (.t 23) (.t 25))⟩,
    ⟨(some 27), (some (22, false)), (.bin .gtr (.t 26) (.c (.int .i64 100000)))⟩,
    ⟨(some 28), none, (.pick (.t 22) (.c (.bool true)) (.t 27))⟩])
  (.cond (.t 28)
  (.seq
  (.region [⟨(some 2), none, (.mv (.c (.sl 0 true [])))⟩,
    ⟨(some 3), none, (.mv (.c (.int .i64 2)))⟩]) .ret) .skip))
  (.region [⟨(some 29), none, (.mv (.t 4))⟩,
    ⟨(some 30), none, (.fadr 3 (.t 6))⟩,
    ⟨(some 31), none, (.load none (.t 30))⟩,
    ⟨(some 32), none, (.bin .add (.t 29) (.t 31))⟩,
    ⟨(some 4), none, (.mv (.t 32))⟩])))))
  (.region [⟨(some 33), none, (.bin .add (.t 12) (.c (.int .i64 1)))⟩,
    ⟨(some 12), none, (.mv (.t 33))⟩])))))))
  (.seq
  (.region [⟨(some 7), none, (.mv (.c (.sl 0 true [])))⟩])
  (.seq
  (.seq
  (.region [⟨(some 34), none, (.mv (.t 0))⟩,
    ⟨(some 35), none, (.len (.t 34))⟩,
    ⟨(some 36), none, (.mv (.c (.int .i64 0)))⟩])
  (.block 2
  (.loop
  (.seq
  (.region [⟨(some 37), none, (.bin .lss (.t 36) (.t 35))⟩])
  (.seq
  (.cond (.t 37) .skip (.exit 2))
  (.seq
  (.block 3
  (.seq
  (.region [⟨(some 38), none, (.ias 4 (.t 34) (.t 36))⟩,
    ⟨(some 39), none, (.load (some 4) (.t 38))⟩,
    ⟨(some 9), none, (.new 28 [(.int .i64 0), (.int .i64 0), (.int .i64 0), (.int .i64 0)])⟩,
    ⟨none, none, (.store (some 4) (.t 9) (.t 39))⟩])
  (.seq
  (.region [⟨(some 40), none, (.fadr 3 (.t 9))⟩,
    ⟨(some 41), none, (.load none (.t 40))⟩,
    ⟨(some 42), none, (.mv (.c (.int .i64 0)))⟩])
  (.block 4
  (.loop
  (.seq
  (.region [⟨(some 43), none, (.bin .lss (.t 42) (.t 41))⟩])
  (.seq
  (.cond (.t 43) .skip (.exit 4))
  (.seq
  (.block 5
  (.region [⟨(some 44), none, (.mv (.t 7))⟩,
    ⟨(some 45), none, (.fadr 0 (.t 9))⟩,
    ⟨(some 46), none, (.load (some 3) (.t 45))⟩,
    ⟨(some 47), none, (.bsl 26 3 [(.t 46)])⟩,
    ⟨(some 48), none, (.app 26 3 24 (.t 44) (.t 47))⟩,
    ⟨(some 7), none, (.mv (.t 48))⟩]))
  (.region [⟨(some 49), none, (.bin .add (.t 42) (.c (.int .i64 1)))⟩,
    ⟨(some 42), none, (.mv (.t 49))⟩])))))))))
  (.region [⟨(some 50), none, (.bin .add (.t 36) (.c (.int .i64 1)))⟩,
    ⟨(some 36), none, (.mv (.t 50))⟩])))))))
  (.seq
  (.region [⟨(some 51), none, (.mv (.t 7))⟩,
    ⟨(some 2), none, (.mv (.t 51))⟩,
    ⟨(some 3), none, (.mv (.c (.int .i64 0)))⟩]) .ret)))))), [(.t 2), (.t 3)]⟩
theorem cc9 : cFn Try.prog 9 = some ic9 := by kernel_rfl
/-- slices.Contains[[]int,int] -/
def ic10 : IFn := ⟨9,
  (.seq
  (.region [⟨(some 4), none, (.mv (.c (.bool false)))⟩])
  (.seq
  (.region [⟨(some 5), none, (.mv (.t 0))⟩,
    ⟨(some 6), none, (.mv (.t 1))⟩,
    ⟨(some 7), none, (.call 39 [(.t 5), (.t 6)])⟩,
    ⟨(some 8), none, (.bin .geq (.t 7) (.c (.int .i64 0)))⟩,
    ⟨(some 4), none, (.mv (.t 8))⟩]) .ret)), [(.t 4)]⟩
theorem cc10 : cFn Try.prog 10 = some ic10 := by kernel_rfl
/-- bakelite/trace.Count -/
def ic12 : IFn := ⟨35,
  (.seq
  (.region [⟨(some 2), none, (.mv (.c (.int .i64 0)))⟩,
    ⟨(some 3), none, (.mv (.c (.int .i64 0)))⟩,
    ⟨(some 4), none, (.mv (.c (.int .i64 0)))⟩])
  (.seq
  (.region [⟨(some 5), none, (.new 33 [(.int .i64 0), (.int .i64 0), (.int .i64 0)])⟩])
  (.seq
  (.seq
  (.region [⟨(some 8), none, (.mv (.t 0))⟩,
    ⟨(some 9), none, (.len (.t 8))⟩,
    ⟨(some 10), none, (.mv (.c (.int .i64 0)))⟩])
  (.block 0
  (.loop
  (.seq
  (.region [⟨(some 11), none, (.bin .lss (.t 10) (.t 9))⟩])
  (.seq
  (.cond (.t 11) .skip (.exit 0))
  (.seq
  (.block 1
  (.seq
  (.region [⟨(some 12), none, (.ias 3 (.t 8) (.t 10))⟩,
    ⟨(some 13), none, (.load (some 3) (.t 12))⟩,
    ⟨(some 7), none, (.new 26 [(.int .i64 0), (.int .i64 0), (.int .i64 0)])⟩,
    ⟨none, none, (.store (some 3) (.t 7) (.t 13))⟩])
  (.seq
  (.region [⟨(some 14), none, (.fadr 0 (.t 7))⟩,
    ⟨(some 15), none, (.load none (.t 14))⟩,
    ⟨(some 16), none, (.bin .geq (.t 15) (.c (.int .i64 0)))⟩,
    ⟨(some 17), none, (.mv (.t 16))⟩,
    ⟨(some 18), (some (17, true)), (.fadr 0 (.t 7))⟩,
    ⟨(some 19), (some (17, true)), (.load none (.t 18))⟩,
    ⟨(some 20), (some (17, true)), (.bin .leq (.t 19) (.c (.int .i64 2)))⟩,
    ⟨(some 21), none, (.pick (.t 17) (.t 20) (.c (.bool false)))⟩])
  (.cond (.t 21)
  (.region [⟨(some 22), none, (.fadr 0 (.t 7))⟩,
    ⟨(some 23), none, (.load none (.t 22))⟩,
    ⟨(some 24), none, (.iaa 3 1 (.t 5) (.t 23))⟩,
    ⟨(some 25), none, (.load none (.t 24))⟩,
    ⟨(some 26), none, (.bin .add (.t 25) (.c (.int .i64 1)))⟩,
    ⟨(some 27), none, (.iaa 3 1 (.t 5) (.t 23))⟩,
    ⟨none, none, (.store none (.t 27) (.t 26))⟩]) .skip))))
  (.region [⟨(some 28), none, (.bin .add (.t 10) (.c (.int .i64 1)))⟩,
    ⟨(some 10), none, (.mv (.t 28))⟩])))))))
  (.seq
  (.dregion [[], [0], [], [2], [], [4], [1, 0], [3, 2, 6, 1, 0], [5, 4, 7, 3, 2, 6, 1, 0]] [⟨(some 29), none, (.iaa 3 1 (.t 5) (.c (.int .i64 0)))⟩,
    ⟨(some 30), none, (.load none (.t 29))⟩,
    ⟨(some 31), none, (.iaa 3 1 (.t 5) (.c (.int .i64 1)))⟩,
    ⟨(some 32), none, (.load none (.t 31))⟩,
    ⟨(some 33), none, (.iaa 3 1 (.t 5) (.c (.int .i64 2)))⟩,
    ⟨(some 34), none, (.load none (.t 33))⟩,
    ⟨(some 2), none, (.mv (.t 30))⟩,
    ⟨(some 3), none, (.mv (.t 32))⟩,
    ⟨(some 4), none, (.mv (.t 34))⟩]) .ret)))), [(.t 2), (.t 3), (.t 4)]⟩
theorem cc12 : cFn Try.prog 12 = some ic12 := by kernel_rfl
/-- bakelite/bakelaw3.traced -/
def ic14 : IFn := ⟨16,
  (.seq
  (.region [⟨(some 0), none, (.mv (.c (.bool false)))⟩])
  (.seq
  (.region [⟨(some 2), none, (.build [(.int .i64 0), (.int .i64 0), (.int .i64 0)] [(0, (1, (.c (.int .i64 1)))), (1, (1, (.c (.int .i64 3))))])⟩,
    ⟨(some 3), none, (.build [(.int .i64 0), (.int .i64 0), (.int .i64 0)] [(0, (1, (.c (.int .i64 1)))), (1, (1, (.c (.int .i64 3))))])⟩,
    ⟨(some 4), none, (.bsl 26 3 [(.t 2), (.t 3)])⟩,
    ⟨(some 5), none, (.call 7 [(.t 4)])⟩,
    ⟨(some 1), none, (.mv (.t 5))⟩])
  (.seq
  (.region [⟨(some 6), none, (.mv (.t 1))⟩,
    ⟨(some 7), none, (.len (.t 6))⟩,
    ⟨(some 8), none, (.bin .eql (.t 7) (.c (.int .i64 1)))⟩,
    ⟨(some 9), none, (.mv (.t 8))⟩,
    ⟨(some 10), (some (9, true)), (.mv (.t 1))⟩,
    ⟨(some 11), (some (9, true)), (.ias 4 (.t 10) (.c (.int .i64 0)))⟩,
    ⟨(some 12), (some (9, true)), (.fadr 3 (.t 11))⟩,
    ⟨(some 13), (some (9, true)), (.load none (.t 12))⟩,
    ⟨(some 14), (some (9, true)), (.bin .eql (.t 13) (.c (.int .i64 2)))⟩,
    ⟨(some 15), none, (.pick (.t 9) (.t 14) (.c (.bool false)))⟩,
    ⟨(some 0), none, (.mv (.t 15))⟩]) .ret))), [(.t 0)]⟩
theorem cc14 : cFn Try.prog 14 = some ic14 := by kernel_rfl
/-- slices.Equal[[]bakelite/api.Bus,bakelite/api.Bus] -/
def ic15 : IFn := ⟨26,
  (.seq
  (.region [⟨(some 4), none, (.mv (.c (.bool false)))⟩])
  (.seq
  (.seq
  (.region [⟨(some 6), none, (.mv (.t 0))⟩,
    ⟨(some 7), none, (.len (.t 6))⟩,
    ⟨(some 8), none, (.mv (.t 1))⟩,
    ⟨(some 9), none, (.len (.t 8))⟩,
    ⟨(some 10), none, (.bin .neq (.t 7) (.t 9))⟩])
  (.cond (.t 10)
  (.seq
  (.region [⟨(some 4), none, (.mv (.c (.bool false)))⟩]) .ret) .skip))
  (.seq
  (.seq
  (.region [⟨(some 11), none, (.mv (.t 0))⟩,
    ⟨(some 12), none, (.len (.t 11))⟩,
    ⟨(some 13), none, (.mv (.c (.int .i64 0)))⟩])
  (.block 0
  (.loop
  (.seq
  (.region [⟨(some 14), none, (.bin .lss (.t 13) (.t 12))⟩])
  (.seq
  (.cond (.t 14) .skip (.exit 0))
  (.seq
  (.block 1
  (.seq
  (.region [⟨(some 15), none, (.mv (.t 13))⟩,
    ⟨(some 5), none, (.mv (.t 15))⟩])
  (.seq
  (.dregion [[], [], [0, 1], [2, 0, 1], [], [], [4, 5], [6, 4, 5], [3, 2, 0, 1, 7, 6, 4, 5]] [⟨(some 16), none, (.mv (.t 0))⟩,
    ⟨(some 17), none, (.mv (.t 5))⟩,
    ⟨(some 18), none, (.ias 3 (.t 16) (.t 17))⟩,
    ⟨(some 19), none, (.load (some 3) (.t 18))⟩,
    ⟨(some 20), none, (.mv (.t 1))⟩,
    ⟨(some 21), none, (.mv (.t 5))⟩,
    ⟨(some 22), none, (.ias 3 (.t 20) (.t 21))⟩,
    ⟨(some 23), none, (.load (some 3) (.t 22))⟩,
    ⟨(some 24), none, (.eqa true [.i, .i, .i] (.t 19) (.t 23))⟩])
  (.cond (.t 24)
  (.seq
  (.region [⟨(some 4), none, (.mv (.c (.bool false)))⟩]) .ret) .skip))))
  (.region [⟨(some 25), none, (.bin .add (.t 13) (.c (.int .i64 1)))⟩,
    ⟨(some 13), none, (.mv (.t 25))⟩])))))))
  (.seq
  (.region [⟨(some 4), none, (.mv (.c (.bool true)))⟩]) .ret)))), [(.t 4)]⟩
theorem cc15 : cFn Try.prog 15 = some ic15 := by kernel_rfl
/-- slices.Equal[[]int,int] -/
def ic16 : IFn := ⟨26,
  (.seq
  (.region [⟨(some 4), none, (.mv (.c (.bool false)))⟩])
  (.seq
  (.seq
  (.region [⟨(some 6), none, (.mv (.t 0))⟩,
    ⟨(some 7), none, (.len (.t 6))⟩,
    ⟨(some 8), none, (.mv (.t 1))⟩,
    ⟨(some 9), none, (.len (.t 8))⟩,
    ⟨(some 10), none, (.bin .neq (.t 7) (.t 9))⟩])
  (.cond (.t 10)
  (.seq
  (.region [⟨(some 4), none, (.mv (.c (.bool false)))⟩]) .ret) .skip))
  (.seq
  (.seq
  (.region [⟨(some 11), none, (.mv (.t 0))⟩,
    ⟨(some 12), none, (.len (.t 11))⟩,
    ⟨(some 13), none, (.mv (.c (.int .i64 0)))⟩])
  (.block 0
  (.loop
  (.seq
  (.region [⟨(some 14), none, (.bin .lss (.t 13) (.t 12))⟩])
  (.seq
  (.cond (.t 14) .skip (.exit 0))
  (.seq
  (.block 1
  (.seq
  (.region [⟨(some 15), none, (.mv (.t 13))⟩,
    ⟨(some 5), none, (.mv (.t 15))⟩])
  (.seq
  (.dregion [[], [], [0, 1], [2, 0, 1], [], [], [4, 5], [6, 4, 5], [3, 2, 0, 1, 7, 6, 4, 5]] [⟨(some 16), none, (.mv (.t 0))⟩,
    ⟨(some 17), none, (.mv (.t 5))⟩,
    ⟨(some 18), none, (.ias 1 (.t 16) (.t 17))⟩,
    ⟨(some 19), none, (.load none (.t 18))⟩,
    ⟨(some 20), none, (.mv (.t 1))⟩,
    ⟨(some 21), none, (.mv (.t 5))⟩,
    ⟨(some 22), none, (.ias 1 (.t 20) (.t 21))⟩,
    ⟨(some 23), none, (.load none (.t 22))⟩,
    ⟨(some 24), none, (.bin .neq (.t 19) (.t 23))⟩])
  (.cond (.t 24)
  (.seq
  (.region [⟨(some 4), none, (.mv (.c (.bool false)))⟩]) .ret) .skip))))
  (.region [⟨(some 25), none, (.bin .add (.t 13) (.c (.int .i64 1)))⟩,
    ⟨(some 13), none, (.mv (.t 25))⟩])))))))
  (.seq
  (.region [⟨(some 4), none, (.mv (.c (.bool true)))⟩]) .ret)))), [(.t 4)]⟩
theorem cc16 : cFn Try.prog 16 = some ic16 := by kernel_rfl
/-- bakelite/trace.Touched -/
def ic17 : IFn := ⟨52,
  (.seq
  (.region [⟨(some 8), none, (.mv (.c (.sl 0 true [])))⟩])
  (.seq
  (.region [⟨(some 9), none, (.mv (.c (.sl 0 true [])))⟩])
  (.seq
  (.seq
  (.region [⟨(some 12), none, (.mv (.t 0))⟩,
    ⟨(some 13), none, (.len (.t 12))⟩,
    ⟨(some 14), none, (.mv (.c (.int .i64 0)))⟩])
  (.block 0
  (.loop
  (.seq
  (.region [⟨(some 15), none, (.bin .lss (.t 14) (.t 13))⟩])
  (.seq
  (.cond (.t 15) .skip (.exit 0))
  (.seq
  (.block 1
  (.seq
  (.region [⟨(some 16), none, (.ias 3 (.t 12) (.t 14))⟩,
    ⟨(some 17), none, (.load (some 3) (.t 16))⟩,
    ⟨(some 11), none, (.new 26 [(.int .i64 0), (.int .i64 0), (.int .i64 0)])⟩,
    ⟨none, none, (.store (some 3) (.t 11) (.t 17))⟩])
  (.seq
  (.region [⟨(some 18), none, (.fadr 0 (.t 11))⟩,
    ⟨(some 19), none, (.load none (.t 18))⟩,
    ⟨(some 20), none, (.mv (.t 1))⟩,
    ⟨(some 21), none, (.bin .eql (.t 19) (.t 20))⟩,
    ⟨(some 22), none, (.mv (.t 21))⟩,
    ⟨(some 23), (some (22, true)), (.mv (.t 1))⟩,
    ⟨(some 24), (some (22, true)), (.bin .eql (.t 23) (.c (.int .i64 1)))⟩,
    ⟨(some 25), (some (22, true)), (.mv (.t 24))⟩,
    ⟨(some 26), (some (25, false)), (.mv (.t 1))⟩,
    ⟨(some 27), (some (25, false)), (.bin .eql (.t 26) (.c (.int .i64 2)))⟩,
    ⟨(some 28), (some (22, true)), (.pick (.t 25) (.c (.bool true)) (.t 27))⟩,
    ⟨(some 29), none, (.pick (.t 22) (.t 28) (.c (.bool false)))⟩,
    ⟨(some 30), none, (.mv (.t 29))⟩,
    ⟨(some 31), (some (30, true)), (.fadr 1 (.t 11))⟩,
    ⟨(some 32), (some (30, true)), (.load none (.t 31))⟩,
    ⟨(some 33), (some (30, true)), (.mv (.t 2))⟩,
    ⟨(some 34), (some (30, true)), (.bin .geq (.t 32) (.t 33))⟩,
    ⟨(some 35), none, (.pick (.t 30) (.t 34) (.c (.bool false)))⟩,
    ⟨(some 36), none, (.mv (.t 35))⟩,
    ⟨(some 37), (some (36, true)), (.fadr 1 (.t 11))⟩,
    ⟨(some 38), (some (36, true)), (.load none (.t 37))⟩,
    ⟨(some 39), (some (36, true)), (.mv (.t 3))⟩,
    ⟨(some 40), (some (36, true)), (.bin .leq (.t 38) (.t 39))⟩,
    ⟨(some 41), none, (.pick (.t 36) (.t 40) (.c (.bool false)))⟩])
  (.cond (.t 41)
  (.region [⟨(some 42), none, (.mv (.t 9))⟩,
    ⟨(some 43), none, (.fadr 1 (.t 11))⟩,
    ⟨(some 44), none, (.load none (.t 43))⟩,
    ⟨(some 45), none, (.bsl 3 1 [(.t 44)])⟩,
    ⟨(some 46), none, (.app 3 1 8 (.t 42) (.t 45))⟩,
    ⟨(some 9), none, (.mv (.t 46))⟩]) .skip))))
  (.region [⟨(some 47), none, (.bin .add (.t 14) (.c (.int .i64 1)))⟩,
    ⟨(some 14), none, (.mv (.t 47))⟩])))))))
  (.seq
  (.region [⟨(some 48), none, (.mv (.t 9))⟩,
    ⟨(some 49), none, (.call 11 [(.t 48)])⟩])
  (.seq
  (.region [⟨(some 50), none, (.mv (.t 9))⟩,
    ⟨(some 51), none, (.call 43 [(.t 50)])⟩,
    ⟨(some 8), none, (.mv (.t 51))⟩]) .ret))))), [(.t 8)]⟩
theorem cc17 : cFn Try.prog 17 = some ic17 := by kernel_rfl
/-- math/bits.Mul -/
def ic38 : IFn := ⟨30,
  (.seq
  (.region [⟨(some 4), none, (.mv (.c (.int .u64 0)))⟩,
    ⟨(some 5), none, (.mv (.c (.int .u64 0)))⟩])
  (.seq
  (.cond (.c (.bool false))
  (.seq
  (.region [⟨(some 11), none, (.mv (.t 0))⟩,
    ⟨(some 12), none, (.cvi .u32 (.t 11))⟩,
    ⟨(some 13), none, (.mv (.t 1))⟩,
    ⟨(some 14), none, (.cvi .u32 (.t 13))⟩,
    ⟨(some 15), none, (.call 83 [(.t 12), (.t 14)])⟩,
    ⟨(some 10), none, (.mv (.t 15))⟩,
    ⟨(some 16), none, (.ext (.t 10) 0)⟩,
    ⟨(some 17), none, (.ext (.t 10) 1)⟩,
    ⟨(some 6), none, (.mv (.t 16))⟩,
    ⟨(some 7), none, (.mv (.t 17))⟩])
  (.seq
  (.region [⟨(some 18), none, (.mv (.t 6))⟩,
    ⟨(some 19), none, (.cvi .u64 (.t 18))⟩,
    ⟨(some 20), none, (.mv (.t 7))⟩,
    ⟨(some 21), none, (.cvi .u64 (.t 20))⟩,
    ⟨(some 4), none, (.mv (.t 19))⟩,
    ⟨(some 5), none, (.mv (.t 21))⟩]) .ret)) .skip)
  (.seq
  (.region [⟨(some 23), none, (.mv (.t 0))⟩,
    ⟨(some 24), none, (.mv (.t 1))⟩,
    ⟨(some 25), none, (.call 84 [(.t 23), (.t 24)])⟩,
    ⟨(some 22), none, (.mv (.t 25))⟩,
    ⟨(some 26), none, (.ext (.t 22) 0)⟩,
    ⟨(some 27), none, (.ext (.t 22) 1)⟩,
    ⟨(some 8), none, (.mv (.t 26))⟩,
    ⟨(some 9), none, (.mv (.t 27))⟩])
  (.seq
  (.region [⟨(some 28), none, (.mv (.t 8))⟩,
    ⟨(some 29), none, (.mv (.t 9))⟩,
    ⟨(some 4), none, (.mv (.t 28))⟩,
    ⟨(some 5), none, (.mv (.t 29))⟩]) .ret)))), [(.t 4), (.t 5)]⟩
theorem cc38 : cFn Try.prog 38 = some ic38 := by kernel_rfl
/-- slices.Index[[]int,int] -/
def ic39 : IFn := ⟨19,
  (.seq
  (.region [⟨(some 4), none, (.mv (.c (.int .i64 0)))⟩])
  (.seq
  (.seq
  (.region [⟨(some 6), none, (.mv (.t 0))⟩,
    ⟨(some 7), none, (.len (.t 6))⟩,
    ⟨(some 8), none, (.mv (.c (.int .i64 0)))⟩])
  (.block 0
  (.loop
  (.seq
  (.region [⟨(some 9), none, (.bin .lss (.t 8) (.t 7))⟩])
  (.seq
  (.cond (.t 9) .skip (.exit 0))
  (.seq
  (.block 1
  (.seq
  (.region [⟨(some 10), none, (.mv (.t 8))⟩,
    ⟨(some 5), none, (.mv (.t 10))⟩])
  (.seq
  (.region [⟨(some 11), none, (.mv (.t 1))⟩,
    ⟨(some 12), none, (.mv (.t 0))⟩,
    ⟨(some 13), none, (.mv (.t 5))⟩,
    ⟨(some 14), none, (.ias 1 (.t 12) (.t 13))⟩,
    ⟨(some 15), none, (.load none (.t 14))⟩,
    ⟨(some 16), none, (.bin .eql (.t 11) (.t 15))⟩])
  (.cond (.t 16)
  (.seq
  (.region [⟨(some 17), none, (.mv (.t 5))⟩,
    ⟨(some 4), none, (.mv (.t 17))⟩]) .ret) .skip))))
  (.region [⟨(some 18), none, (.bin .add (.t 8) (.c (.int .i64 1)))⟩,
    ⟨(some 8), none, (.mv (.t 18))⟩])))))))
  (.seq
  (.region [⟨(some 4), none, (.mv (.c (.int .i64 (-1))))⟩]) .ret))), [(.t 4)]⟩
theorem cc39 : cFn Try.prog 39 = some ic39 := by kernel_rfl
/-- slices.Backward[[]bakelite/api.Bus,bakelite/api.Bus] -/
def ic42 : IFn := ⟨4,
  (.seq
  (.region [⟨(some 1), none, (.box 22 1 (.t 0))⟩,
    ⟨(some 2), none, (.mv (.c .nilfn))⟩])
  (.seq
  (.region [⟨(some 3), none, (.mkf (.func 96) [] [(.t 1)])⟩,
    ⟨(some 2), none, (.mv (.t 3))⟩]) .ret)), [(.t 2)]⟩
theorem cc42 : cFn Try.prog 42 = some ic42 := by kernel_rfl
/-- slices.Compact[[]int,int] -/
def ic43 : IFn := ⟨61,
  (.seq
  (.region [⟨(some 2), none, (.mv (.c (.sl 0 true [])))⟩])
  (.seq
  (.seq
  (.region [⟨(some 6), none, (.mv (.t 0))⟩,
    ⟨(some 7), none, (.len (.t 6))⟩,
    ⟨(some 8), none, (.bin .lss (.t 7) (.c (.int .i64 2)))⟩])
  (.cond (.t 8)
  (.seq
  (.region [⟨(some 9), none, (.mv (.t 0))⟩,
    ⟨(some 2), none, (.mv (.t 9))⟩]) .ret) .skip))
  (.seq
  (.seq
  (.region [⟨(some 3), none, (.mv (.c (.int .i64 1)))⟩])
  (.block 0
  (.loop
  (.seq
  (.seq
  (.region [⟨(some 10), none, (.mv (.t 3))⟩,
    ⟨(some 11), none, (.mv (.t 0))⟩,
    ⟨(some 12), none, (.len (.t 11))⟩,
    ⟨(some 13), none, (.bin .lss (.t 10) (.t 12))⟩])
  (.cond (.t 13) .skip (.exit 0)))
  (.seq
  (.block 1
  (.seq
  (.dregion [[], [], [0, 1], [2, 0, 1], [], [], [5], [4, 6, 5], [7, 4, 6, 5], [3, 2, 0, 1, 8, 7, 4, 6, 5]] [⟨(some 16), none, (.mv (.t 0))⟩,
    ⟨(some 17), none, (.mv (.t 3))⟩,
    ⟨(some 18), none, (.ias 1 (.t 16) (.t 17))⟩,
    ⟨(some 19), none, (.load none (.t 18))⟩,
    ⟨(some 20), none, (.mv (.t 0))⟩,
    ⟨(some 21), none, (.mv (.t 3))⟩,
    ⟨(some 22), none, (.bin .sub (.t 21) (.c (.int .i64 1)))⟩,
    ⟨(some 23), none, (.ias 1 (.t 20) (.t 22))⟩,
    ⟨(some 24), none, (.load none (.t 23))⟩,
    ⟨(some 25), none, (.bin .eql (.t 19) (.t 24))⟩])
  (.cond (.t 25)
  (.seq
  (.region [⟨(some 26), none, (.mv (.t 0))⟩,
    ⟨(some 27), none, (.mv (.t 3))⟩,
    ⟨(some 28), none, (.slc 1 (.t 26) (some (.t 27)) none)⟩,
    ⟨(some 4), none, (.mv (.t 28))⟩])
  (.seq
  (.seq
  (.region [⟨(some 5), none, (.mv (.c (.int .i64 1)))⟩])
  (.block 2
  (.loop
  (.seq
  (.seq
  (.region [⟨(some 29), none, (.mv (.t 5))⟩,
    ⟨(some 30), none, (.mv (.t 4))⟩,
    ⟨(some 31), none, (.len (.t 30))⟩,
    ⟨(some 32), none, (.bin .lss (.t 29) (.t 31))⟩])
  (.cond (.t 32) .skip (.exit 2)))
  (.seq
  (.block 3
  (.seq
  (.dregion [[], [], [0, 1], [2, 0, 1], [], [], [5], [4, 6, 5], [7, 4, 6, 5], [3, 2, 0, 1, 8, 7, 4, 6, 5]] [⟨(some 35), none, (.mv (.t 4))⟩,
    ⟨(some 36), none, (.mv (.t 5))⟩,
    ⟨(some 37), none, (.ias 1 (.t 35) (.t 36))⟩,
    ⟨(some 38), none, (.load none (.t 37))⟩,
    ⟨(some 39), none, (.mv (.t 4))⟩,
    ⟨(some 40), none, (.mv (.t 5))⟩,
    ⟨(some 41), none, (.bin .sub (.t 40) (.c (.int .i64 1)))⟩,
    ⟨(some 42), none, (.ias 1 (.t 39) (.t 41))⟩,
    ⟨(some 43), none, (.load none (.t 42))⟩,
    ⟨(some 44), none, (.bin .neq (.t 38) (.t 43))⟩])
  (.cond (.t 44)
  (.seq
  (.region [⟨(some 45), none, (.mv (.t 0))⟩,
    ⟨(some 46), none, (.mv (.t 3))⟩,
    ⟨(some 47), none, (.mv (.t 4))⟩,
    ⟨(some 48), none, (.mv (.t 5))⟩,
    ⟨(some 49), none, (.ias 1 (.t 47) (.t 48))⟩,
    ⟨(some 50), none, (.load none (.t 49))⟩,
    ⟨(some 51), none, (.ias 1 (.t 45) (.t 46))⟩,
    ⟨none, none, (.store none (.t 51) (.t 50))⟩])
  (.region [⟨(some 52), none, (.mv (.t 3))⟩,
    ⟨(some 53), none, (.bin .add (.t 52) (.c (.int .i64 1)))⟩,
    ⟨(some 3), none, (.mv (.t 53))⟩])) .skip)))
  (.region [⟨(some 33), none, (.mv (.t 5))⟩,
    ⟨(some 34), none, (.bin .add (.t 33) (.c (.int .i64 1)))⟩,
    ⟨(some 5), none, (.mv (.t 34))⟩]))))))
  (.seq
  (.region [⟨(some 54), none, (.mv (.t 0))⟩,
    ⟨(some 55), none, (.mv (.t 3))⟩,
    ⟨(some 56), none, (.slc 1 (.t 54) (some (.t 55)) none)⟩,
    ⟨none, none, (.clr 1 [(.int .i64 0)] (.t 56))⟩])
  (.seq
  (.region [⟨(some 57), none, (.mv (.t 0))⟩,
    ⟨(some 58), none, (.mv (.t 3))⟩,
    ⟨(some 59), none, (.slc 1 (.t 57) none (some (.t 58)))⟩,
    ⟨(some 2), none, (.mv (.t 59))⟩]) .ret)))) .skip)))
  (.region [⟨(some 14), none, (.mv (.t 3))⟩,
    ⟨(some 15), none, (.bin .add (.t 14) (.c (.int .i64 1)))⟩,
    ⟨(some 3), none, (.mv (.t 15))⟩]))))))
  (.seq
  (.region [⟨(some 60), none, (.mv (.t 0))⟩,
    ⟨(some 2), none, (.mv (.t 60))⟩]) .ret)))), [(.t 2)]⟩
theorem cc43 : cFn Try.prog 43 = some ic43 := by kernel_rfl
/-- bakelite/bakelaw3.TracePacks -/
def ic3 : IFn := ⟨258,
  (.seq
  (.region [⟨(some 12), none, (.mv (.c (.bool false)))⟩])
  (.seq
  (.region [⟨(some 37), none, (.mv (.t 0))⟩,
    ⟨(some 38), none, (.call 7 [(.t 37)])⟩,
    ⟨(some 13), none, (.mv (.t 38))⟩])
  (.seq
  (.region [⟨(some 14), none, (.mv (.c (.sl 0 true [])))⟩])
  (.seq
  (.seq
  (.region [⟨(some 39), none, (.mv (.t 13))⟩,
    ⟨(some 40), none, (.len (.t 39))⟩,
    ⟨(some 41), none, (.mv (.c (.int .i64 0)))⟩])
  (.block 0
  (.loop
  (.seq
  (.region [⟨(some 42), none, (.bin .lss (.t 41) (.t 40))⟩])
  (.seq
  (.cond (.t 42) .skip (.exit 0))
  (.seq
  (.block 1
  (.seq
  (.region [⟨(some 43), none, (.mv (.t 41))⟩,
    ⟨(some 44), none, (.ias 4 (.t 39) (.t 41))⟩,
    ⟨(some 45), none, (.load (some 4) (.t 44))⟩,
    ⟨(some 16), none, (.new 28 [(.int .i64 0), (.int .i64 0), (.int .i64 0), (.int .i64 0)])⟩,
    ⟨(some 15), none, (.mv (.t 43))⟩,
    ⟨none, none, (.store (some 4) (.t 16) (.t 45))⟩])
  (.seq
  (.seq
  (.dregion [[], [0], [1, 0], [2, 1, 0], [3, 2, 1, 0], [4, 3, 2, 1, 0], [3, 2, 1, 0], [6, 3, 2, 1, 0], [5, 4, 3, 2, 1, 0, 7, 6], [3, 2, 1, 0, 8, 5, 4, 7, 6], [9, 3, 2, 1, 0, 8, 5, 4, 7, 6], [10, 9, 3, 2, 1, 0, 8, 5, 4, 7, 6], [11, 10, 9, 3, 2, 1, 0, 8, 5, 4, 7, 6], [12, 11, 10, 9, 3, 2, 1, 0, 8, 5, 4, 7, 6], [13, 12, 11, 10, 9, 3, 2, 1, 0, 8, 5, 4, 7, 6], [13, 12, 11, 10, 9, 3, 2, 1, 0, 8, 5, 4, 7, 6], [15, 13, 12, 11, 10, 9, 3, 2, 1, 0, 8, 5, 4, 7, 6], [14, 13, 12, 11, 10, 9, 3, 2, 1, 0, 8, 5, 4, 7, 6, 16, 15], [17, 14, 13, 12, 11, 10, 9, 3, 2, 1, 0, 8, 5, 4, 7, 6, 16, 15], [18, 17, 14, 13, 12, 11, 10, 9, 3, 2, 1, 0, 8, 5, 4, 7, 6, 16, 15], [13, 12, 11, 10, 9, 3, 2, 1, 0, 8, 5, 4, 7, 6], [20, 13, 12, 11, 10, 9, 3, 2, 1, 0, 8, 5, 4, 7, 6], [19, 18, 17, 14, 13, 12, 11, 10, 9, 3, 2, 1, 0, 8, 5, 4, 7, 6, 16, 15, 21, 20], [13, 12, 11, 10, 9, 3, 2, 1, 0, 8, 5, 4, 7, 6, 22, 19, 18, 17, 14, 16, 15, 21, 20], [10, 9, 3, 2, 1, 0, 8, 5, 4, 7, 6, 23, 13, 12, 11, 22, 19, 18, 17, 14, 16, 15, 21, 20]] [⟨(some 46), none, (.fadr 3 (.t 16))⟩,
    ⟨(some 47), none, (.load none (.t 46))⟩,
    ⟨(some 48), none, (.bin .lss (.t 47) (.c (.int .i64 1)))⟩,
    ⟨(some 49), none, (.mv (.t 48))⟩,
    ⟨(some 50), (some (49, false)), (.fadr 3 (.t 16))⟩,
    ⟨(some 51), (some (49, false)), (.load none (.t 50))⟩,
    ⟨(some 52), (some (49, false)), (.mv (.t 0))⟩,
    ⟨(some 53), (some (49, false)), (.len (.t 52))⟩,
    ⟨(some 54), (some (49, false)), (.bin .gtr (.t 51) (.t 53))⟩,
    ⟨(some 55), none, (.pick (.t 49) (.c (.bool true)) (.t 54))⟩,
    ⟨(some 56), none, (.mv (.t 55))⟩,
    ⟨(some 57), (some (56, false)), (.mv (.t 15))⟩,
    ⟨(some 58), (some (56, false)), (.bin .gtr (.t 57) (.c (.int .i64 0)))⟩,
    ⟨(some 59), (some (56, false)), (.mv (.t 58))⟩,
    ⟨(some 60), (some (59, true)), (.mv (.t 13))⟩,
    ⟨(some 61), (some (59, true)), (.mv (.t 15))⟩,
    ⟨(some 62), (some (59, true)), (.bin .sub (.t 61) (.c (.int .i64 1)))⟩,
    ⟨(some 63), (some (59, true)), (.ias 4 (.t 60) (.t 62))⟩,
    ⟨(some 64), (some (59, true)), (.fadr 0 (.t 63))⟩,
    ⟨(some 65), (some (59, true)), (.load (some 3) (.t 64))⟩,
    ⟨(some 66), (some (59, true)), (.fadr 0 (.t 16))⟩,
    ⟨(some 67), (some (59, true)), (.load (some 3) (.t 66))⟩,
    ⟨(some 68), (some (59, true)), (.eqa false [.i, .i, .i] (.t 65) (.t 67))⟩,
    ⟨(some 69), (some (56, false)), (.pick (.t 59) (.t 68) (.c (.bool false)))⟩,
    ⟨(some 70), none, (.pick (.t 56) (.c (.bool true)) (.t 69))⟩])
  (.cond (.t 70)
  (.seq
  (.region [⟨(some 12), none, (.mv (.c (.bool false)))⟩]) .ret) .skip))
  (.region [⟨(some 71), none, (.mv (.t 14))⟩,
    ⟨(some 72), none, (.fadr 0 (.t 16))⟩,
    ⟨(some 73), none, (.load (some 3) (.t 72))⟩,
    ⟨(some 74), none, (.bsl 26 3 [(.t 73)])⟩,
    ⟨(some 75), none, (.fadr 3 (.t 16))⟩,
    ⟨(some 76), none, (.load none (.t 75))⟩,
    ⟨(some 77), none, (.call 8 [(.t 74), (.t 76)])⟩,
    ⟨(some 78), none, (.app 26 3 24 (.t 71) (.t 77))⟩,
    ⟨(some 14), none, (.mv (.t 78))⟩]))))
  (.region [⟨(some 79), none, (.bin .add (.t 41) (.c (.int .i64 1)))⟩,
    ⟨(some 41), none, (.mv (.t 79))⟩])))))))
  (.seq
  (.region [⟨(some 81), none, (.mv (.t 1))⟩,
    ⟨(some 82), none, (.call 9 [(.t 81)])⟩,
    ⟨(some 80), none, (.mv (.t 82))⟩,
    ⟨(some 83), none, (.ext (.t 80) 0)⟩,
    ⟨(some 84), none, (.ext (.t 80) 1)⟩,
    ⟨(some 17), none, (.mv (.t 83))⟩,
    ⟨(some 18), none, (.mv (.t 84))⟩])
  (.seq
  (.region [⟨(some 19), none, (.mv (.c (.int .i64 0)))⟩,
    ⟨(some 20), none, (.mv (.c (.int .i64 0)))⟩])
  (.seq
  (.seq
  (.region [⟨(some 85), none, (.mv (.t 1))⟩,
    ⟨(some 86), none, (.len (.t 85))⟩,
    ⟨(some 87), none, (.mv (.c (.int .i64 0)))⟩])
  (.block 2
  (.loop
  (.seq
  (.region [⟨(some 88), none, (.bin .lss (.t 87) (.t 86))⟩])
  (.seq
  (.cond (.t 88) .skip (.exit 2))
  (.seq
  (.block 3
  (.seq
  (.region [⟨(some 89), none, (.ias 4 (.t 85) (.t 87))⟩,
    ⟨(some 90), none, (.load (some 4) (.t 89))⟩,
    ⟨(some 22), none, (.new 28 [(.int .i64 0), (.int .i64 0), (.int .i64 0), (.int .i64 0)])⟩,
    ⟨none, none, (.store (some 4) (.t 22) (.t 90))⟩])
  (.seq
  (.block 4
  (.seq
  (.region [⟨(some 92), none, (.mv (.t 19))⟩,
    ⟨(some 93), none, (.bin .neq (.t 92) (.c (.int .i64 0)))⟩,
    ⟨(some 91), none, (.mv (.t 93))⟩])
  (.cond (.t 91) .skip
  (.seq
  (.region [⟨(some 95), none, (.fadr 3 (.t 22))⟩,
    ⟨(some 96), none, (.load none (.t 95))⟩,
    ⟨(some 97), none, (.bin .lss (.t 96) (.c (.int .i64 1)))⟩,
    ⟨(some 94), none, (.mv (.t 97))⟩])
  (.cond (.t 94)
  (.region [⟨(some 19), none, (.mv (.c (.int .i64 1)))⟩])
  (.seq
  (.region [⟨(some 99), none, (.fadr 3 (.t 22))⟩,
    ⟨(some 100), none, (.load none (.t 99))⟩,
    ⟨(some 101), none, (.bin .gtr (.t 100) (.c (.int .i64 100000)))⟩,
    ⟨(some 102), none, (.mv (.t 101))⟩,
    ⟨(some 103), (some (102, false)), (.mv (.t 20))⟩,
    ⟨(some 104), (some (102, false)), (.fadr 3 (.t 22))⟩,
    ⟨(some 105), (some (102, false)), (.load none (.t 104))⟩,
    ⟨(some 106), (some (102, false)), (.bin .add (.t 103) (.t 105))⟩,
    ⟨(some 107), (some (102, false)), (.bin .gtr (.t 106) (.c (.int .i64 100000)))⟩,
    ⟨(some 108), none, (.pick (.t 102) (.c (.bool true)) (.t 107))⟩,
    ⟨(some 98), none, (.mv (.t 108))⟩])
  (.cond (.t 98)
  (.region [⟨(some 19), none, (.mv (.c (.int .i64 2)))⟩]) .skip)))))))
  (.region [⟨(some 109), none, (.mv (.t 20))⟩,
    ⟨(some 110), none, (.fadr 3 (.t 22))⟩,
    ⟨(some 111), none, (.load none (.t 110))⟩,
    ⟨(some 112), none, (.mm false (.t 111) (.c (.int .i64 100001)))⟩,
    ⟨(some 113), none, (.mm true (.c (.int .i64 0)) (.t 112))⟩,
    ⟨(some 114), none, (.bin .add (.t 109) (.t 113))⟩,
    ⟨(some 20), none, (.mv (.t 114))⟩]))))
  (.region [⟨(some 115), none, (.bin .add (.t 87) (.c (.int .i64 1)))⟩,
    ⟨(some 87), none, (.mv (.t 115))⟩])))))))
  (.seq
  (.region [⟨(some 23), none, (.mv (.c (.sl 0 true [])))⟩])
  (.seq
  (.seq
  (.region [⟨(some 116), none, (.mv (.t 1))⟩,
    ⟨(some 117), none, (.len (.t 116))⟩,
    ⟨(some 118), none, (.mv (.c (.int .i64 0)))⟩])
  (.block 5
  (.loop
  (.seq
  (.region [⟨(some 119), none, (.bin .lss (.t 118) (.t 117))⟩])
  (.seq
  (.cond (.t 119) .skip (.exit 5))
  (.seq
  (.block 6
  (.seq
  (.region [⟨(some 120), none, (.ias 4 (.t 116) (.t 118))⟩,
    ⟨(some 121), none, (.load (some 4) (.t 120))⟩,
    ⟨(some 25), none, (.new 28 [(.int .i64 0), (.int .i64 0), (.int .i64 0), (.int .i64 0)])⟩,
    ⟨none, none, (.store (some 4) (.t 25) (.t 121))⟩])
  (.seq
  (.region [⟨(some 122), none, (.mv (.t 19))⟩,
    ⟨(some 123), none, (.bin .eql (.t 122) (.c (.int .i64 0)))⟩])
  (.cond (.t 123)
  (.region [⟨(some 124), none, (.mv (.t 23))⟩,
    ⟨(some 125), none, (.fadr 0 (.t 25))⟩,
    ⟨(some 126), none, (.load (some 3) (.t 125))⟩,
    ⟨(some 127), none, (.bsl 26 3 [(.t 126)])⟩,
    ⟨(some 128), none, (.fadr 3 (.t 25))⟩,
    ⟨(some 129), none, (.load none (.t 128))⟩,
    ⟨(some 130), none, (.call 8 [(.t 127), (.t 129)])⟩,
    ⟨(some 131), none, (.app 26 3 24 (.t 124) (.t 130))⟩,
    ⟨(some 23), none, (.mv (.t 131))⟩]) .skip))))
  (.region [⟨(some 132), none, (.bin .add (.t 118) (.c (.int .i64 1)))⟩,
    ⟨(some 118), none, (.mv (.t 132))⟩])))))))
  (.seq
  (.region [⟨(some 26), none, (.new 33 [(.int .i64 0), (.int .i64 0), (.int .i64 0)])⟩])
  (.seq
  (.region [⟨(some 27), none, (.mv (.c (.sl 0 true [])))⟩])
  (.seq
  (.region [⟨(some 28), none, (.mv (.c (.int .i64 0)))⟩,
    ⟨(some 29), none, (.mv (.c (.bool false)))⟩])
  (.seq
  (.seq
  (.region [⟨(some 133), none, (.mv (.t 0))⟩,
    ⟨(some 134), none, (.len (.t 133))⟩,
    ⟨(some 135), none, (.mv (.c (.int .i64 0)))⟩])
  (.block 7
  (.loop
  (.seq
  (.region [⟨(some 136), none, (.bin .lss (.t 135) (.t 134))⟩])
  (.seq
  (.cond (.t 136) .skip (.exit 7))
  (.seq
  (.block 8
  (.seq
  (.region [⟨(some 137), none, (.ias 3 (.t 133) (.t 135))⟩,
    ⟨(some 138), none, (.load (some 3) (.t 137))⟩,
    ⟨(some 31), none, (.new 26 [(.int .i64 0), (.int .i64 0), (.int .i64 0)])⟩,
    ⟨none, none, (.store (some 3) (.t 31) (.t 138))⟩])
  (.seq
  (.seq
  (.region [⟨(some 139), none, (.fadr 0 (.t 31))⟩,
    ⟨(some 140), none, (.load none (.t 139))⟩,
    ⟨(some 141), none, (.bin .geq (.t 140) (.c (.int .i64 0)))⟩,
    ⟨(some 142), none, (.mv (.t 141))⟩,
    ⟨(some 143), (some (142, true)), (.fadr 0 (.t 31))⟩,
    ⟨(some 144), (some (142, true)), (.load none (.t 143))⟩,
    ⟨(some 145), (some (142, true)), (.bin .lss (.t 144) (.c (.int .i64 3)))⟩,
    ⟨(some 146), none, (.pick (.t 142) (.t 145) (.c (.bool false)))⟩])
  (.cond (.t 146)
  (.region [⟨(some 147), none, (.fadr 0 (.t 31))⟩,
    ⟨(some 148), none, (.load none (.t 147))⟩,
    ⟨(some 149), none, (.iaa 3 1 (.t 26) (.t 148))⟩,
    ⟨(some 150), none, (.load none (.t 149))⟩,
    ⟨(some 151), none, (.bin .add (.t 150) (.c (.int .i64 1)))⟩,
    ⟨(some 152), none, (.iaa 3 1 (.t 26) (.t 148))⟩,
    ⟨none, none, (.store none (.t 152) (.t 151))⟩]) .skip))
  (.seq
  (.seq
  (.region [⟨(some 153), none, (.fadr 0 (.t 31))⟩,
    ⟨(some 154), none, (.load none (.t 153))⟩,
    ⟨(some 155), none, (.mv (.t 2))⟩,
    ⟨(some 156), none, (.bin .eql (.t 154) (.t 155))⟩,
    ⟨(some 157), none, (.mv (.t 156))⟩,
    ⟨(some 158), (some (157, true)), (.mv (.t 2))⟩,
    ⟨(some 159), (some (157, true)), (.bin .eql (.t 158) (.c (.int .i64 1)))⟩,
    ⟨(some 160), (some (157, true)), (.mv (.t 159))⟩,
    ⟨(some 161), (some (160, false)), (.mv (.t 2))⟩,
    ⟨(some 162), (some (160, false)), (.bin .eql (.t 161) (.c (.int .i64 2)))⟩,
    ⟨(some 163), (some (157, true)), (.pick (.t 160) (.c (.bool true)) (.t 162))⟩,
    ⟨(some 164), none, (.pick (.t 157) (.t 163) (.c (.bool false)))⟩,
    ⟨(some 165), none, (.mv (.t 164))⟩,
    ⟨(some 166), (some (165, true)), (.fadr 1 (.t 31))⟩,
    ⟨(some 167), (some (165, true)), (.load none (.t 166))⟩,
    ⟨(some 168), (some (165, true)), (.mv (.t 3))⟩,
    ⟨(some 169), (some (165, true)), (.bin .geq (.t 167) (.t 168))⟩,
    ⟨(some 170), none, (.pick (.t 165) (.t 169) (.c (.bool false)))⟩,
    ⟨(some 171), none, (.mv (.t 170))⟩,
    ⟨(some 172), (some (171, true)), (.fadr 1 (.t 31))⟩,
    ⟨(some 173), (some (171, true)), (.load none (.t 172))⟩,
    ⟨(some 174), (some (171, true)), (.mv (.t 4))⟩,
    ⟨(some 175), (some (171, true)), (.bin .leq (.t 173) (.t 174))⟩,
    ⟨(some 176), none, (.pick (.t 171) (.t 175) (.c (.bool false)))⟩,
    ⟨(some 177), none, (.mv (.t 176))⟩,
    ⟨(some 178), (some (177, true)), (.mv (.t 27))⟩,
    ⟨(some 179), (some (177, true)), (.fadr 1 (.t 31))⟩,
    ⟨(some 180), (some (177, true)), (.load none (.t 179))⟩,
    ⟨(some 181), (some (177, true)), (.call 10 [(.t 178), (.t 180)])⟩,
    ⟨(some 182), (some (177, true)), (.un .not (.t 181))⟩,
    ⟨(some 183), none, (.pick (.t 177) (.t 182) (.c (.bool false)))⟩])
  (.cond (.t 183)
  (.region [⟨(some 184), none, (.mv (.t 27))⟩,
    ⟨(some 185), none, (.fadr 1 (.t 31))⟩,
    ⟨(some 186), none, (.load none (.t 185))⟩,
    ⟨(some 187), none, (.bsl 3 1 [(.t 186)])⟩,
    ⟨(some 188), none, (.app 3 1 8 (.t 184) (.t 187))⟩,
    ⟨(some 27), none, (.mv (.t 188))⟩]) .skip))
  (.seq
  (.region [⟨(some 189), none, (.fadr 0 (.t 31))⟩,
    ⟨(some 190), none, (.load none (.t 189))⟩,
    ⟨(some 191), none, (.bin .neq (.t 190) (.c (.int .i64 0)))⟩,
    ⟨(some 192), none, (.mv (.t 191))⟩,
    ⟨(some 193), (some (192, true)), (.fadr 1 (.t 31))⟩,
    ⟨(some 194), (some (192, true)), (.load none (.t 193))⟩,
    ⟨(some 195), (some (192, true)), (.mv (.t 5))⟩,
    ⟨(some 196), (some (192, true)), (.bin .eql (.t 194) (.t 195))⟩,
    ⟨(some 197), none, (.pick (.t 192) (.t 196) (.c (.bool false)))⟩])
  (.cond (.t 197)
  (.region [⟨(some 198), none, (.fadr 2 (.t 31))⟩,
    ⟨(some 199), none, (.load none (.t 198))⟩,
    ⟨(some 28), none, (.mv (.t 199))⟩,
    ⟨(some 29), none, (.mv (.c (.bool true)))⟩]) .skip))))))
  (.region [⟨(some 200), none, (.bin .add (.t 135) (.c (.int .i64 1)))⟩,
    ⟨(some 135), none, (.mv (.t 200))⟩])))))))
  (.seq
  (.region [⟨(some 201), none, (.mv (.t 27))⟩,
    ⟨(some 202), none, (.call 11 [(.t 201)])⟩])
  (.seq
  (.region [⟨(some 204), none, (.mv (.t 0))⟩,
    ⟨(some 205), none, (.call 12 [(.t 204)])⟩,
    ⟨(some 203), none, (.mv (.t 205))⟩,
    ⟨(some 206), none, (.ext (.t 203) 0)⟩,
    ⟨(some 207), none, (.ext (.t 203) 1)⟩,
    ⟨(some 208), none, (.ext (.t 203) 2)⟩,
    ⟨(some 32), none, (.mv (.t 206))⟩,
    ⟨(some 33), none, (.mv (.t 207))⟩,
    ⟨(some 34), none, (.mv (.t 208))⟩])
  (.seq
  (.region [⟨(some 210), none, (.mv (.t 0))⟩,
    ⟨(some 211), none, (.mv (.t 5))⟩,
    ⟨(some 212), none, (.call 13 [(.t 210), (.t 211)])⟩,
    ⟨(some 209), none, (.mv (.t 212))⟩,
    ⟨(some 213), none, (.ext (.t 209) 0)⟩,
    ⟨(some 214), none, (.ext (.t 209) 1)⟩,
    ⟨(some 35), none, (.mv (.t 213))⟩,
    ⟨(some 36), none, (.mv (.t 214))⟩])
  (.seq
  (.region [⟨(some 215), none, (.call 14 [])⟩,
    ⟨(some 216), none, (.mv (.t 215))⟩,
    ⟨(some 217), (some (216, true)), (.mv (.t 14))⟩,
    ⟨(some 218), (some (216, true)), (.mv (.t 0))⟩,
    ⟨(some 219), (some (216, true)), (.call 15 [(.t 217), (.t 218)])⟩,
    ⟨(some 220), none, (.pick (.t 216) (.t 219) (.c (.bool false)))⟩,
    ⟨(some 221), none, (.mv (.t 220))⟩,
    ⟨(some 222), (some (221, true)), (.mv (.t 18))⟩,
    ⟨(some 223), (some (221, true)), (.mv (.t 19))⟩,
    ⟨(some 224), (some (221, true)), (.bin .eql (.t 222) (.t 223))⟩,
    ⟨(some 225), none, (.pick (.t 221) (.t 224) (.c (.bool false)))⟩,
    ⟨(some 226), none, (.mv (.t 225))⟩,
    ⟨(some 227), (some (226, true)), (.mv (.t 17))⟩,
    ⟨(some 228), (some (226, true)), (.mv (.t 23))⟩,
    ⟨(some 229), (some (226, true)), (.call 15 [(.t 227), (.t 228)])⟩,
    ⟨(some 230), none, (.pick (.t 226) (.t 229) (.c (.bool false)))⟩,
    ⟨(some 231), none, (.mv (.t 230))⟩,
    ⟨(some 232), (some (231, true)), (.mv (.t 32))⟩,
    ⟨(some 233), (some (231, true)), (.mv (.t 33))⟩,
    ⟨(some 234), (some (231, true)), (.mv (.t 34))⟩,
    ⟨(some 235), (some (231, true)), (.build [(.int .i64 0), (.int .i64 0), (.int .i64 0)] [(0, (1, (.t 232))), (1, (1, (.t 233))), (2, (1, (.t 234)))])⟩,
    ⟨(some 236), (some (231, true)), (.load (some 3) (.t 26))⟩,
    ⟨(some 237), (some (231, true)), (.eqa false [.i, .i, .i] (.t 235) (.t 236))⟩,
    ⟨(some 238), none, (.pick (.t 231) (.t 237) (.c (.bool false)))⟩,
    ⟨(some 239), none, (.mv (.t 238))⟩,
    ⟨(some 240), (some (239, true)), (.mv (.t 0))⟩,
    ⟨(some 241), (some (239, true)), (.mv (.t 2))⟩,
    ⟨(some 242), (some (239, true)), (.mv (.t 3))⟩,
    ⟨(some 243), (some (239, true)), (.mv (.t 4))⟩,
    ⟨(some 244), (some (239, true)), (.call 17 [(.t 240), (.t 241), (.t 242), (.t 243)])⟩,
    ⟨(some 245), (some (239, true)), (.mv (.t 27))⟩,
    ⟨(some 246), (some (239, true)), (.call 16 [(.t 244), (.t 245)])⟩,
    ⟨(some 247), none, (.pick (.t 239) (.t 246) (.c (.bool false)))⟩,
    ⟨(some 248), none, (.mv (.t 247))⟩,
    ⟨(some 249), (some (248, true)), (.mv (.t 35))⟩,
    ⟨(some 250), (some (248, true)), (.mv (.t 28))⟩,
    ⟨(some 251), (some (248, true)), (.bin .eql (.t 249) (.t 250))⟩,
    ⟨(some 252), none, (.pick (.t 248) (.t 251) (.c (.bool false)))⟩,
    ⟨(some 253), none, (.mv (.t 252))⟩,
    ⟨(some 254), (some (253, true)), (.mv (.t 36))⟩,
    ⟨(some 255), (some (253, true)), (.mv (.t 29))⟩,
    ⟨(some 256), (some (253, true)), (.beq false (.t 254) (.t 255))⟩,
    ⟨(some 257), none, (.pick (.t 253) (.t 256) (.c (.bool false)))⟩,
    ⟨(some 12), none, (.mv (.t 257))⟩]) .ret))))))))))))))))), [(.t 12)]⟩
theorem cc3 : cFn Try.prog 3 = some ic3 := by kernel_rfl
/-- slices.Sort[[]int,int] -/
def ic11 : IFn := ⟨11,
  (.seq
  (.region [⟨(some 3), none, (.mv (.t 0))⟩,
    ⟨(some 4), none, (.len (.t 3))⟩,
    ⟨(some 2), none, (.mv (.t 4))⟩])
  (.region [⟨(some 5), none, (.mv (.t 0))⟩,
    ⟨(some 6), none, (.mv (.t 2))⟩,
    ⟨(some 7), none, (.mv (.t 2))⟩,
    ⟨(some 8), none, (.cvi .u64 (.t 7))⟩,
    ⟨(some 9), none, (.call 41 [(.t 8)])⟩,
    ⟨(some 10), none, (.call 40 [(.t 5), (.c (.int .i64 0)), (.t 6), (.t 9)])⟩])), []⟩
theorem cc11 : cFn Try.prog 11 = some ic11 := by kernel_rfl
/-- math/bits.Mul64 -/
def ic84 : IFn := ⟨51,
  (.seq
  (.region [⟨(some 4), none, (.mv (.c (.int .u64 0)))⟩,
    ⟨(some 5), none, (.mv (.c (.int .u64 0)))⟩])
  (.seq
  (.region [⟨(some 14), none, (.mv (.t 0))⟩,
    ⟨(some 15), none, (.bin .and (.t 14) (.c (.int .u64 4294967295)))⟩,
    ⟨(some 6), none, (.mv (.t 15))⟩])
  (.seq
  (.region [⟨(some 16), none, (.mv (.t 0))⟩,
    ⟨(some 17), none, (.bin .shr (.t 16) (.c (.int .u64 32)))⟩,
    ⟨(some 7), none, (.mv (.t 17))⟩])
  (.seq
  (.region [⟨(some 18), none, (.mv (.t 1))⟩,
    ⟨(some 19), none, (.bin .and (.t 18) (.c (.int .u64 4294967295)))⟩,
    ⟨(some 8), none, (.mv (.t 19))⟩])
  (.seq
  (.region [⟨(some 20), none, (.mv (.t 1))⟩,
    ⟨(some 21), none, (.bin .shr (.t 20) (.c (.int .u64 32)))⟩,
    ⟨(some 9), none, (.mv (.t 21))⟩])
  (.seq
  (.region [⟨(some 22), none, (.mv (.t 6))⟩,
    ⟨(some 23), none, (.mv (.t 8))⟩,
    ⟨(some 24), none, (.bin .mul (.t 22) (.t 23))⟩,
    ⟨(some 10), none, (.mv (.t 24))⟩])
  (.seq
  (.region [⟨(some 25), none, (.mv (.t 7))⟩,
    ⟨(some 26), none, (.mv (.t 8))⟩,
    ⟨(some 27), none, (.bin .mul (.t 25) (.t 26))⟩,
    ⟨(some 28), none, (.mv (.t 10))⟩,
    ⟨(some 29), none, (.bin .shr (.t 28) (.c (.int .u64 32)))⟩,
    ⟨(some 30), none, (.bin .add (.t 27) (.t 29))⟩,
    ⟨(some 11), none, (.mv (.t 30))⟩])
  (.seq
  (.region [⟨(some 31), none, (.mv (.t 11))⟩,
    ⟨(some 32), none, (.bin .and (.t 31) (.c (.int .u64 4294967295)))⟩,
    ⟨(some 12), none, (.mv (.t 32))⟩])
  (.seq
  (.region [⟨(some 33), none, (.mv (.t 11))⟩,
    ⟨(some 34), none, (.bin .shr (.t 33) (.c (.int .u64 32)))⟩,
    ⟨(some 13), none, (.mv (.t 34))⟩])
  (.seq
  (.region [⟨(some 35), none, (.mv (.t 12))⟩,
    ⟨(some 36), none, (.mv (.t 6))⟩,
    ⟨(some 37), none, (.mv (.t 9))⟩,
    ⟨(some 38), none, (.bin .mul (.t 36) (.t 37))⟩,
    ⟨(some 39), none, (.bin .add (.t 35) (.t 38))⟩,
    ⟨(some 12), none, (.mv (.t 39))⟩])
  (.seq
  (.region [⟨(some 40), none, (.mv (.t 7))⟩,
    ⟨(some 41), none, (.mv (.t 9))⟩,
    ⟨(some 42), none, (.bin .mul (.t 40) (.t 41))⟩,
    ⟨(some 43), none, (.mv (.t 13))⟩,
    ⟨(some 44), none, (.bin .add (.t 42) (.t 43))⟩,
    ⟨(some 45), none, (.mv (.t 12))⟩,
    ⟨(some 46), none, (.bin .shr (.t 45) (.c (.int .u64 32)))⟩,
    ⟨(some 47), none, (.bin .add (.t 44) (.t 46))⟩,
    ⟨(some 4), none, (.mv (.t 47))⟩])
  (.seq
  (.region [⟨(some 48), none, (.mv (.t 0))⟩,
    ⟨(some 49), none, (.mv (.t 1))⟩,
    ⟨(some 50), none, (.bin .mul (.t 48) (.t 49))⟩,
    ⟨(some 5), none, (.mv (.t 50))⟩]) .ret)))))))))))), [(.t 4), (.t 5)]⟩
theorem cc84 : cFn Try.prog 84 = some ic84 := by kernel_rfl
end Go.Proofs.Ytlagfebklcaaeaa
