/- The compact code of the functions, printed by a program (wip/gen.lean); each is proved to be the model's code turned. -/
import Derived.Test.YtaboolnmkfenlaaProg
import Derived.Test.YtaboolnmkfenlaaAmB
import Derived.KernelRfl
namespace Go.Proofs.Ytaboolnmkfenlaa
open Go Go.Am
/-- bitcast/bitcastlaw28.FlowsBack -/
def cf3 : AF :=
  ⟨88, 2, [.tmp 4],
  .seq (.reg [⟨(some 4), .move (.c (.val (.bool false))), none⟩])
  (.seq (.reg [⟨(some 15), .move (.t 0), none⟩, ⟨(some 16), .call (.c (.func 9 [])) [(.t 15)], none⟩, ⟨(some 5), .move (.t 16), none⟩])
  (.seq (.reg [⟨(some 17), .move (.t 5), none⟩, ⟨(some 18), .call (.c (.func 10 [])) [(.t 17), (.c (.val (.int .i64 1))), (.c (.val (.int .i64 99)))], none⟩, ⟨(some 19), .move (.t 5), none⟩, ⟨(some 20), .call (.c (.func 10 [])) [(.t 19), (.c (.val (.int .i64 1))), (.c (.val (.int .i64 99)))], none⟩, ⟨(some 21), .build [(.val (.int .i64 0)), (.val (.int .i64 0))] [(0, 1, (.t 18)), (1, 1, (.t 20))], none⟩, ⟨(some 6), .box (.c (.agg [(.val (.int .i64 0)), (.val (.int .i64 0))])), none⟩, ⟨none, .store 2 (.t 6) (.t 21), none⟩])
  (.seq (.reg [⟨(some 22), .move (.t 1), none⟩, ⟨(some 23), .move (.t 1), none⟩, ⟨(some 24), .lenS (.t 23), none⟩, ⟨(some 25), .min [(.t 24), (.c (.val (.int .i64 62)))], none⟩, ⟨(some 26), .sliceS (.t 22) none (some (.t 25)), none⟩, ⟨(some 7), .move (.t 26), none⟩])
  (.seq (.reg [⟨(some 28), .load true 2 (.t 6), none⟩, ⟨(some 29), .move (.t 7), none⟩, ⟨(some 30), .call (.c (.func 11 [])) [(.t 28), (.t 29)], none⟩, ⟨(some 27), .move (.t 30), none⟩, ⟨(some 31), .ext 0 (.t 27), none⟩, ⟨(some 32), .ext 1 (.t 27), none⟩, ⟨(some 8), .move (.t 31), none⟩, ⟨(some 9), .move (.t 32), none⟩])
  (.seq (.reg [⟨(some 34), .move (.t 8), none⟩, ⟨(some 35), .call (.c (.func 12 [])) [(.t 34)], none⟩, ⟨(some 33), .move (.t 35), none⟩, ⟨(some 36), .ext 0 (.t 33), none⟩, ⟨(some 37), .ext 1 (.t 33), none⟩, ⟨(some 38), .ext 2 (.t 33), none⟩, ⟨(some 10), .box (.c (.agg [(.val (.int .i64 0)), (.val (.int .i64 0))])), none⟩, ⟨none, .store 2 (.t 10) (.t 36), none⟩, ⟨(some 11), .move (.t 37), none⟩, ⟨(some 12), .move (.t 38), none⟩])
  (.seq (.seq (.reg [⟨(some 39), .move (.t 9), none⟩, ⟨(some 40), .bin .neq (.t 39) (.c (.val (.int .i64 0))), none⟩, ⟨(some 41), .move (.t 40), none⟩, ⟨(some 42), .move (.t 12), (some (41, false))⟩, ⟨(some 43), .bin .neq (.t 42) (.c (.val (.int .i64 0))), (some (41, false))⟩, ⟨(some 44), .pick (.t 41) (.c (.val (.bool true))) (.t 43), none⟩, ⟨(some 45), .move (.t 44), none⟩, ⟨(some 46), .load true 2 (.t 10), (some (45, false))⟩, ⟨(some 47), .load true 2 (.t 6), (some (45, false))⟩, ⟨(some 48), .eqs [.i, .i] true (.t 46) (.t 47), (some (45, false))⟩, ⟨(some 49), .pick (.t 45) (.c (.val (.bool true))) (.t 48), none⟩, ⟨(some 50), .move (.t 49), none⟩, ⟨(some 51), .move (.t 11), (some (50, false))⟩, ⟨(some 52), .move (.t 7), (some (50, false))⟩, ⟨(some 53), .bin .neq (.t 51) (.t 52), (some (50, false))⟩, ⟨(some 54), .pick (.t 50) (.c (.val (.bool true))) (.t 53), none⟩, ⟨(some 55), .move (.t 54), none⟩, ⟨(some 56), .move (.t 8), (some (55, false))⟩, ⟨(some 57), .lenS (.t 56), (some (55, false))⟩, ⟨(some 58), .move (.t 7), (some (55, false))⟩, ⟨(some 59), .lenS (.t 58), (some (55, false))⟩, ⟨(some 60), .bin .add (.t 59) (.c (.val (.int .i64 2))), (some (55, false))⟩, ⟨(some 61), .bin .neq (.t 57) (.t 60), (some (55, false))⟩, ⟨(some 62), .pick (.t 55) (.c (.val (.bool true))) (.t 61), none⟩])
  (.cond (.t 62) (.seq (.reg [⟨(some 4), .move (.c (.val (.bool false))), none⟩])
  (.ret)) (.skip)))
  (.seq (.reg [⟨(some 64), .move (.t 7), none⟩, ⟨(some 65), .call (.c (.func 12 [])) [(.t 64)], none⟩, ⟨(some 63), .move (.t 65), none⟩, ⟨(some 66), .ext 0 (.t 63), none⟩, ⟨(some 67), .ext 1 (.t 63), none⟩, ⟨(some 68), .ext 2 (.t 63), none⟩, ⟨none, .store 2 (.t 10) (.t 66), none⟩, ⟨(some 11), .move (.t 67), none⟩, ⟨(some 12), .move (.t 68), none⟩])
  (.seq (.seq (.reg [⟨(some 69), .move (.t 12), none⟩, ⟨(some 70), .bin .neq (.t 69) (.c (.val (.int .i64 0))), none⟩])
  (.cond (.t 70) (.seq (.reg [⟨(some 71), .call (.c (.func 13 [])) [], none⟩, ⟨(some 4), .move (.t 71), none⟩])
  (.ret)) (.skip)))
  (.seq (.reg [⟨(some 73), .load true 2 (.t 10), none⟩, ⟨(some 74), .move (.t 11), none⟩, ⟨(some 75), .call (.c (.func 11 [])) [(.t 73), (.t 74)], none⟩, ⟨(some 72), .move (.t 75), none⟩, ⟨(some 76), .ext 0 (.t 72), none⟩, ⟨(some 77), .ext 1 (.t 72), none⟩, ⟨(some 13), .move (.t 76), none⟩, ⟨(some 14), .move (.t 77), none⟩])
  (.seq (.reg [⟨(some 78), .move (.t 14), none⟩, ⟨(some 79), .bin .eql (.t 78) (.c (.val (.int .i64 0))), none⟩, ⟨(some 80), .move (.t 79), none⟩, ⟨(some 81), .move (.t 13), (some (80, true))⟩, ⟨(some 82), .move (.t 7), (some (80, true))⟩, ⟨(some 83), .bin .eql (.t 81) (.t 82), (some (80, true))⟩, ⟨(some 84), .pick (.t 80) (.t 83) (.c (.val (.bool false))), none⟩, ⟨(some 85), .move (.t 84), none⟩, ⟨(some 86), .call (.c (.func 13 [])) [], (some (85, true))⟩, ⟨(some 87), .pick (.t 85) (.t 86) (.c (.val (.bool false))), none⟩, ⟨(some 4), .move (.t 87), none⟩])
  (.ret)))))))))))⟩
theorem cf3_ok : cFunc Try.prog Try.f3 = some cf3 := by kernel_rfl

/-- bitcast/bitcastlaw23.MemberLimit -/
def cf4 : AF :=
  ⟨94, 2, [.tmp 4],
  .seq (.reg [⟨(some 4), .move (.c (.val (.bool false))), none⟩])
  (.seq (.reg [⟨(some 5), .box (.c (.agg [(.val (.int .i64 0)), (.sl 0 [] true)])), none⟩])
  (.seq (.seq (.reg [⟨(some 6), .move (.c (.val (.int .i64 0))), none⟩])
  (.block 0 (.loop (.seq (.seq (.reg [⟨(some 18), .move (.t 6), none⟩, ⟨(some 19), .bin .lss (.t 18) (.c (.val (.int .i64 64))), none⟩])
  (.cond (.t 19) (.skip) (.exit 0)))
  (.seq (.block 1 (.seq (.dreg [⟨(some 23), .load true 2 (.t 5), none⟩, ⟨(some 24), .move (.t 6), none⟩, ⟨(some 25), .bin .rem (.t 24) (.c (.val (.int .i64 8))), none⟩, ⟨(some 26), .bin .add (.c (.val (.int .i64 1))) (.t 25), none⟩, ⟨(some 27), .move (.t 6), none⟩, ⟨(some 28), .bin .quo (.t 27) (.c (.val (.int .i64 8))), none⟩, ⟨(some 29), .bin .add (.c (.val (.int .i64 1))) (.t 28), none⟩, ⟨(some 30), .call (.c (.func 15 [])) [], none⟩, ⟨(some 31), .move (.t 1), none⟩, ⟨(some 32), .call (.c (.func 16 [])) [(.t 31), (.c (.val (.int .i64 1000)))], none⟩, ⟨(some 33), .bin .add (.c (.val (.int .i64 1))) (.t 32), none⟩, ⟨(some 34), .call (.c (.func 14 [])) [(.t 23), (.t 26), (.t 29), (.t 30), (.t 33)], none⟩, ⟨(some 22), .move (.t 34), none⟩, ⟨(some 35), .ext 0 (.t 22), none⟩, ⟨(some 36), .ext 1 (.t 22), none⟩, ⟨(some 7), .box (.c (.agg [(.val (.int .i64 0)), (.sl 0 [] true)])), none⟩, ⟨none, .store 2 (.t 7) (.t 35), none⟩, ⟨(some 8), .move (.t 36), none⟩] [(0, 7), (0, 9), (0, 15), (7, 15), (9, 15), (11, 15)])
  (.seq (.seq (.reg [⟨(some 37), .move (.t 8), none⟩, ⟨(some 38), .bin .neq (.t 37) (.c (.val (.int .i64 0))), none⟩])
  (.cond (.t 38) (.seq (.reg [⟨(some 4), .move (.c (.val (.bool false))), none⟩])
  (.ret)) (.skip)))
  (.reg [⟨(some 39), .load true 2 (.t 7), none⟩, ⟨none, .store 2 (.t 5) (.t 39), none⟩]))))
  (.reg [⟨(some 20), .move (.t 6), none⟩, ⟨(some 21), .bin .add (.t 20) (.c (.val (.int .i64 1))), none⟩, ⟨(some 6), .move (.t 21), none⟩]))))))
  (.seq (.reg [⟨(some 40), .move (.t 0), none⟩, ⟨(some 41), .call (.c (.func 16 [])) [(.t 40), (.c (.val (.int .i64 99)))], none⟩, ⟨(some 42), .bin .add (.c (.val (.int .i64 1))) (.t 41), none⟩, ⟨(some 9), .move (.t 42), none⟩])
  (.seq (.dreg [⟨(some 44), .load true 2 (.t 5), none⟩, ⟨(some 45), .move (.t 9), none⟩, ⟨(some 46), .call (.c (.func 15 [])) [], none⟩, ⟨(some 47), .call (.c (.func 14 [])) [(.t 44), (.t 45), (.c (.val (.int .i64 9))), (.t 46), (.c (.val (.int .i64 5)))], none⟩, ⟨(some 43), .move (.t 47), none⟩, ⟨(some 48), .ext 0 (.t 43), none⟩, ⟨(some 49), .ext 1 (.t 43), none⟩, ⟨(some 10), .box (.c (.agg [(.val (.int .i64 0)), (.sl 0 [] true)])), none⟩, ⟨none, .store 2 (.t 10) (.t 48), none⟩, ⟨(some 11), .move (.t 49), none⟩] [(0, 2), (0, 7), (2, 7), (3, 7)])
  (.seq (.dreg [⟨(some 51), .load true 2 (.t 5), none⟩, ⟨(some 52), .call (.c (.func 15 [])) [], none⟩, ⟨(some 53), .call (.c (.func 14 [])) [(.t 51), (.c (.val (.int .i64 1))), (.c (.val (.int .i64 1))), (.t 52), (.c (.val (.int .i64 7)))], none⟩, ⟨(some 50), .move (.t 53), none⟩, ⟨(some 54), .ext 0 (.t 50), none⟩, ⟨(some 55), .ext 1 (.t 50), none⟩, ⟨(some 12), .box (.c (.agg [(.val (.int .i64 0)), (.sl 0 [] true)])), none⟩, ⟨none, .store 2 (.t 12) (.t 54), none⟩, ⟨(some 13), .move (.t 55), none⟩] [(0, 1), (0, 6), (1, 6), (2, 6)])
  (.seq (.dreg [⟨(some 57), .load true 2 (.t 5), none⟩, ⟨(some 58), .move (.t 9), none⟩, ⟨(some 59), .call (.c (.func 17 [])) [], none⟩, ⟨(some 60), .call (.c (.func 14 [])) [(.t 57), (.t 58), (.c (.val (.int .i64 9))), (.t 59), (.c (.val (.int .i64 5)))], none⟩, ⟨(some 56), .move (.t 60), none⟩, ⟨(some 61), .ext 0 (.t 56), none⟩, ⟨(some 62), .ext 1 (.t 56), none⟩, ⟨(some 14), .box (.c (.agg [(.val (.int .i64 0)), (.sl 0 [] true)])), none⟩, ⟨none, .store 2 (.t 14) (.t 61), none⟩, ⟨(some 15), .move (.t 62), none⟩] [(0, 2), (0, 7), (2, 7), (3, 7)])
  (.seq (.reg [⟨(some 64), .load true 2 (.t 12), none⟩, ⟨(some 65), .call (.c (.func 18 [])) [(.t 64), (.c (.val (.int .i64 1))), (.c (.val (.int .i64 1)))], none⟩, ⟨(some 63), .move (.t 65), none⟩, ⟨(some 66), .ext 0 (.t 63), none⟩, ⟨(some 67), .ext 1 (.t 63), none⟩, ⟨(some 16), .box (.c (.agg [(.val (.int .i64 0)), (.val (.int .i64 0)), (.val (.int .i64 0)), (.sl 0 [] true), (.val (.int .i64 0))])), none⟩, ⟨none, .store 5 (.t 16) (.t 66), none⟩, ⟨(some 17), .move (.t 67), none⟩])
  (.seq (.reg [⟨(some 68), .move (.t 11), none⟩, ⟨(some 69), .bin .eql (.t 68) (.c (.val (.int .i64 3))), none⟩, ⟨(some 70), .move (.t 69), none⟩, ⟨(some 71), .move (.t 13), (some (70, true))⟩, ⟨(some 72), .bin .eql (.t 71) (.c (.val (.int .i64 0))), (some (70, true))⟩, ⟨(some 73), .pick (.t 70) (.t 72) (.c (.val (.bool false))), none⟩, ⟨(some 74), .move (.t 73), none⟩, ⟨(some 75), .move (.t 15), (some (74, true))⟩, ⟨(some 76), .bin .eql (.t 75) (.c (.val (.int .i64 0))), (some (74, true))⟩, ⟨(some 77), .pick (.t 74) (.t 76) (.c (.val (.bool false))), none⟩, ⟨(some 78), .move (.t 77), none⟩, ⟨(some 79), .move (.t 17), (some (78, true))⟩, ⟨(some 80), .pick (.t 78) (.t 79) (.c (.val (.bool false))), none⟩, ⟨(some 81), .move (.t 80), none⟩, ⟨(some 82), .faddr 4 (.t 16), (some (81, true))⟩, ⟨(some 83), .load false 1 (.t 82), (some (81, true))⟩, ⟨(some 84), .bin .eql (.t 83) (.c (.val (.int .i64 7))), (some (81, true))⟩, ⟨(some 85), .pick (.t 81) (.t 84) (.c (.val (.bool false))), none⟩, ⟨(some 86), .move (.t 85), none⟩, ⟨(some 87), .load true 2 (.t 14), (some (86, true))⟩, ⟨(some 88), .load true 2 (.t 5), (some (86, true))⟩, ⟨(some 89), .call (.c (.func 19 [])) [(.t 87), (.t 88)], (some (86, true))⟩, ⟨(some 90), .pick (.t 86) (.t 89) (.c (.val (.bool false))), none⟩, ⟨(some 91), .move (.t 90), none⟩, ⟨(some 92), .call (.c (.func 20 [])) [], (some (91, true))⟩, ⟨(some 93), .pick (.t 91) (.t 92) (.c (.val (.bool false))), none⟩, ⟨(some 4), .move (.t 93), none⟩])
  (.ret)))))))))⟩
theorem cf4_ok : cFunc Try.prog Try.f4 = some cf4 := by kernel_rfl

/-- bitcast/bitcastlaw23.MemberOrder -/
def cf5 : AF :=
  ⟨155, 1, [.tmp 2],
  .seq (.reg [⟨(some 2), .move (.c (.val (.bool false))), none⟩])
  (.seq (.reg [⟨(some 24), .move (.t 0), none⟩, ⟨(some 25), .call (.c (.func 9 [])) [(.t 24)], none⟩, ⟨(some 3), .move (.t 25), none⟩])
  (.seq (.reg [⟨(some 26), .move (.t 3), none⟩, ⟨(some 27), .call (.c (.func 21 [])) [(.t 26), (.c (.val (.int .i64 6)))], none⟩, ⟨(some 4), .box (.c (.agg [(.val (.int .i64 0)), (.sl 0 [] true)])), none⟩, ⟨none, .store 2 (.t 4) (.t 27), none⟩])
  (.seq (.reg [⟨(some 28), .move (.t 3), none⟩, ⟨(some 29), .call (.c (.func 10 [])) [(.t 28), (.c (.val (.int .i64 1))), (.c (.val (.int .i64 8)))], none⟩, ⟨(some 30), .move (.t 3), none⟩, ⟨(some 31), .call (.c (.func 10 [])) [(.t 30), (.c (.val (.int .i64 1))), (.c (.val (.int .i64 4)))], none⟩, ⟨(some 5), .move (.t 29), none⟩, ⟨(some 6), .move (.t 31), none⟩])
  (.seq (.reg [⟨(some 32), .move (.t 3), none⟩, ⟨(some 33), .call (.c (.func 10 [])) [(.t 32), (.c (.val (.int .i64 1))), (.c (.val (.int .i64 8)))], none⟩, ⟨(some 34), .move (.t 3), none⟩, ⟨(some 35), .call (.c (.func 10 [])) [(.t 34), (.c (.val (.int .i64 1))), (.c (.val (.int .i64 4)))], none⟩, ⟨(some 7), .move (.t 33), none⟩, ⟨(some 8), .move (.t 35), none⟩])
  (.seq (.reg [⟨(some 36), .move (.t 3), none⟩, ⟨(some 37), .call (.c (.func 22 [])) [(.t 36)], none⟩, ⟨(some 38), .move (.t 3), none⟩, ⟨(some 39), .call (.c (.func 22 [])) [(.t 38)], none⟩, ⟨(some 40), .move (.t 3), none⟩, ⟨(some 41), .call (.c (.func 10 [])) [(.t 40), (.c (.val (.int .i64 1))), (.c (.val (.int .i64 50)))], none⟩, ⟨(some 9), .box (.c (.agg [(.val (.int .i64 0)), (.sl 0 [] true)])), none⟩, ⟨(some 10), .box (.c (.agg [(.val (.int .i64 0)), (.sl 0 [] true)])), none⟩, ⟨none, .store 2 (.t 9) (.t 37), none⟩, ⟨none, .store 2 (.t 10) (.t 39), none⟩, ⟨(some 11), .move (.t 41), none⟩])
  (.seq (.seq (.reg [⟨(some 42), .move (.t 5), none⟩, ⟨(some 43), .move (.t 7), none⟩, ⟨(some 44), .bin .eql (.t 42) (.t 43), none⟩, ⟨(some 45), .move (.t 44), none⟩, ⟨(some 46), .move (.t 6), (some (45, true))⟩, ⟨(some 47), .move (.t 8), (some (45, true))⟩, ⟨(some 48), .bin .eql (.t 46) (.t 47), (some (45, true))⟩, ⟨(some 49), .pick (.t 45) (.t 48) (.c (.val (.bool false))), none⟩])
  (.cond (.t 49) (.reg [⟨(some 50), .move (.t 8), none⟩, ⟨(some 51), .bin .add (.t 50) (.c (.val (.int .i64 1))), none⟩, ⟨(some 8), .move (.t 51), none⟩]) (.skip)))
  (.seq (.reg [⟨(some 53), .load true 2 (.t 4), none⟩, ⟨(some 54), .move (.t 5), none⟩, ⟨(some 55), .move (.t 6), none⟩, ⟨(some 56), .load true 2 (.t 9), none⟩, ⟨(some 57), .move (.t 11), none⟩, ⟨(some 58), .call (.c (.func 14 [])) [(.t 53), (.t 54), (.t 55), (.t 56), (.t 57)], none⟩, ⟨(some 52), .move (.t 58), none⟩, ⟨(some 59), .ext 0 (.t 52), none⟩, ⟨(some 60), .ext 1 (.t 52), none⟩, ⟨(some 12), .box (.c (.agg [(.val (.int .i64 0)), (.sl 0 [] true)])), none⟩, ⟨none, .store 2 (.t 12) (.t 59), none⟩, ⟨(some 13), .move (.t 60), none⟩])
  (.seq (.reg [⟨(some 62), .load true 2 (.t 12), none⟩, ⟨(some 63), .move (.t 7), none⟩, ⟨(some 64), .move (.t 8), none⟩, ⟨(some 65), .load true 2 (.t 10), none⟩, ⟨(some 66), .call (.c (.func 14 [])) [(.t 62), (.t 63), (.t 64), (.t 65), (.c (.val (.int .i64 9)))], none⟩, ⟨(some 61), .move (.t 66), none⟩, ⟨(some 67), .ext 0 (.t 61), none⟩, ⟨(some 68), .ext 1 (.t 61), none⟩, ⟨none, .store 2 (.t 12) (.t 67), none⟩, ⟨(some 14), .move (.t 68), none⟩])
  (.seq (.reg [⟨(some 70), .load true 2 (.t 4), none⟩, ⟨(some 71), .move (.t 7), none⟩, ⟨(some 72), .move (.t 8), none⟩, ⟨(some 73), .load true 2 (.t 10), none⟩, ⟨(some 74), .call (.c (.func 14 [])) [(.t 70), (.t 71), (.t 72), (.t 73), (.c (.val (.int .i64 9)))], none⟩, ⟨(some 69), .move (.t 74), none⟩, ⟨(some 75), .ext 0 (.t 69), none⟩, ⟨(some 76), .ext 1 (.t 69), none⟩, ⟨(some 15), .box (.c (.agg [(.val (.int .i64 0)), (.sl 0 [] true)])), none⟩, ⟨none, .store 2 (.t 15) (.t 75), none⟩, ⟨(some 16), .move (.t 76), none⟩])
  (.seq (.reg [⟨(some 78), .load true 2 (.t 15), none⟩, ⟨(some 79), .move (.t 5), none⟩, ⟨(some 80), .move (.t 6), none⟩, ⟨(some 81), .load true 2 (.t 9), none⟩, ⟨(some 82), .move (.t 11), none⟩, ⟨(some 83), .call (.c (.func 14 [])) [(.t 78), (.t 79), (.t 80), (.t 81), (.t 82)], none⟩, ⟨(some 77), .move (.t 83), none⟩, ⟨(some 84), .ext 0 (.t 77), none⟩, ⟨(some 85), .ext 1 (.t 77), none⟩, ⟨none, .store 2 (.t 15) (.t 84), none⟩, ⟨(some 17), .move (.t 85), none⟩])
  (.seq (.seq (.reg [⟨(some 86), .move (.t 13), none⟩, ⟨(some 87), .bin .neq (.t 86) (.c (.val (.int .i64 0))), none⟩, ⟨(some 88), .move (.t 87), none⟩, ⟨(some 89), .move (.t 14), (some (88, false))⟩, ⟨(some 90), .bin .neq (.t 89) (.c (.val (.int .i64 0))), (some (88, false))⟩, ⟨(some 91), .pick (.t 88) (.c (.val (.bool true))) (.t 90), none⟩, ⟨(some 92), .move (.t 91), none⟩, ⟨(some 93), .move (.t 16), (some (92, false))⟩, ⟨(some 94), .bin .neq (.t 93) (.c (.val (.int .i64 0))), (some (92, false))⟩, ⟨(some 95), .pick (.t 92) (.c (.val (.bool true))) (.t 94), none⟩, ⟨(some 96), .move (.t 95), none⟩, ⟨(some 97), .move (.t 17), (some (96, false))⟩, ⟨(some 98), .bin .neq (.t 97) (.c (.val (.int .i64 0))), (some (96, false))⟩, ⟨(some 99), .pick (.t 96) (.c (.val (.bool true))) (.t 98), none⟩, ⟨(some 100), .move (.t 99), none⟩, ⟨(some 101), .load true 2 (.t 12), (some (100, false))⟩, ⟨(some 102), .load true 2 (.t 15), (some (100, false))⟩, ⟨(some 103), .call (.c (.func 19 [])) [(.t 101), (.t 102)], (some (100, false))⟩, ⟨(some 104), .un .not (.t 103), (some (100, false))⟩, ⟨(some 105), .pick (.t 100) (.c (.val (.bool true))) (.t 104), none⟩])
  (.cond (.t 105) (.seq (.reg [⟨(some 2), .move (.c (.val (.bool false))), none⟩])
  (.ret)) (.skip)))
  (.seq (.dreg [⟨(some 107), .load true 2 (.t 12), none⟩, ⟨(some 108), .faddr 0 (.t 12), none⟩, ⟨(some 109), .load false 1 (.t 108), none⟩, ⟨(some 110), .move (.t 3), none⟩, ⟨(some 111), .call (.c (.func 24 [])) [(.t 110), (.c (.val (.int .i64 20)))], none⟩, ⟨(some 112), .bin .add (.t 109) (.t 111), none⟩, ⟨(some 113), .call (.c (.func 23 [])) [(.t 107), (.t 112)], none⟩, ⟨(some 106), .move (.t 113), none⟩, ⟨(some 114), .ext 0 (.t 106), none⟩, ⟨(some 115), .ext 1 (.t 106), none⟩, ⟨(some 18), .box (.c (.agg [(.val (.int .i64 0)), (.sl 0 [] true)])), none⟩, ⟨none, .store 2 (.t 18) (.t 114), none⟩, ⟨(some 19), .move (.t 115), none⟩] [(0, 2), (0, 4), (2, 4), (0, 10), (2, 10), (4, 10), (6, 10)])
  (.seq (.reg [⟨(some 117), .load true 2 (.t 18), none⟩, ⟨(some 118), .faddr 0 (.t 12), none⟩, ⟨(some 119), .load false 1 (.t 118), none⟩, ⟨(some 120), .bin .add (.t 119) (.c (.val (.int .i64 20))), none⟩, ⟨(some 121), .call (.c (.func 23 [])) [(.t 117), (.t 120)], none⟩, ⟨(some 116), .move (.t 121), none⟩, ⟨(some 122), .ext 0 (.t 116), none⟩, ⟨(some 123), .ext 1 (.t 116), none⟩, ⟨(some 20), .box (.c (.agg [(.val (.int .i64 0)), (.sl 0 [] true)])), none⟩, ⟨none, .store 2 (.t 20) (.t 122), none⟩, ⟨(some 21), .move (.t 123), none⟩])
  (.seq (.reg [⟨(some 125), .load true 2 (.t 12), none⟩, ⟨(some 126), .faddr 0 (.t 12), none⟩, ⟨(some 127), .load false 1 (.t 126), none⟩, ⟨(some 128), .bin .add (.t 127) (.c (.val (.int .i64 20))), none⟩, ⟨(some 129), .call (.c (.func 23 [])) [(.t 125), (.t 128)], none⟩, ⟨(some 124), .move (.t 129), none⟩, ⟨(some 130), .ext 0 (.t 124), none⟩, ⟨(some 131), .ext 1 (.t 124), none⟩, ⟨(some 22), .box (.c (.agg [(.val (.int .i64 0)), (.sl 0 [] true)])), none⟩, ⟨none, .store 2 (.t 22) (.t 130), none⟩, ⟨(some 23), .move (.t 131), none⟩])
  (.seq (.reg [⟨(some 132), .move (.t 19), none⟩, ⟨(some 133), .bin .eql (.t 132) (.c (.val (.int .i64 0))), none⟩, ⟨(some 134), .move (.t 133), none⟩, ⟨(some 135), .move (.t 21), (some (134, true))⟩, ⟨(some 136), .bin .eql (.t 135) (.c (.val (.int .i64 0))), (some (134, true))⟩, ⟨(some 137), .pick (.t 134) (.t 136) (.c (.val (.bool false))), none⟩, ⟨(some 138), .move (.t 137), none⟩, ⟨(some 139), .move (.t 23), (some (138, true))⟩, ⟨(some 140), .bin .eql (.t 139) (.c (.val (.int .i64 0))), (some (138, true))⟩, ⟨(some 141), .pick (.t 138) (.t 140) (.c (.val (.bool false))), none⟩, ⟨(some 142), .move (.t 141), none⟩, ⟨(some 143), .load true 2 (.t 20), (some (142, true))⟩, ⟨(some 144), .load true 2 (.t 22), (some (142, true))⟩, ⟨(some 145), .call (.c (.func 19 [])) [(.t 143), (.t 144)], (some (142, true))⟩, ⟨(some 146), .pick (.t 142) (.t 145) (.c (.val (.bool false))), none⟩, ⟨(some 147), .move (.t 146), none⟩, ⟨(some 148), .load true 2 (.t 22), (some (147, true))⟩, ⟨(some 149), .call (.c (.func 25 [])) [(.t 148)], (some (147, true))⟩, ⟨(some 150), .bin .eql (.t 149) (.c (.val (.int .i64 0))), (some (147, true))⟩, ⟨(some 151), .pick (.t 147) (.t 150) (.c (.val (.bool false))), none⟩, ⟨(some 152), .move (.t 151), none⟩, ⟨(some 153), .call (.c (.func 20 [])) [], (some (152, true))⟩, ⟨(some 154), .pick (.t 152) (.t 153) (.c (.val (.bool false))), none⟩, ⟨(some 2), .move (.t 154), none⟩])
  (.ret))))))))))))))))⟩
theorem cf5_ok : cFunc Try.prog Try.f5 = some cf5 := by kernel_rfl

/-- bitcast/bitcastlaw23.MemberRobust -/
def cf6 : AF :=
  ⟨139, 2, [.tmp 4],
  .seq (.reg [⟨(some 4), .move (.c (.val (.bool false))), none⟩])
  (.seq (.reg [⟨(some 24), .move (.t 0), none⟩, ⟨(some 25), .call (.c (.func 9 [])) [(.t 24)], none⟩, ⟨(some 5), .move (.t 25), none⟩])
  (.seq (.reg [⟨(some 26), .move (.t 1), none⟩, ⟨(some 27), .call (.c (.func 16 [])) [(.t 26), (.c (.val (.int .i64 300)))], none⟩, ⟨(some 28), .bin .add (.c (.val (.int .i64 1))) (.t 27), none⟩, ⟨(some 6), .move (.t 28), none⟩])
  (.seq (.reg [⟨(some 29), .move (.t 6), none⟩, ⟨(some 30), .bin .mul (.c (.val (.int .i64 3))) (.t 29), none⟩, ⟨(some 31), .move (.t 5), none⟩, ⟨(some 32), .call (.c (.func 24 [])) [(.t 31), (.c (.val (.int .i64 3)))], none⟩, ⟨(some 33), .bin .add (.t 30) (.t 32), none⟩, ⟨(some 7), .move (.t 33), none⟩])
  (.seq (.reg [⟨(some 35), .move (.t 5), none⟩, ⟨(some 36), .call (.c (.func 24 [])) [(.t 35), (.c (.val (.int .i64 1000)))], none⟩, ⟨(some 37), .build [(.val (.int .i64 0)), (.sl 0 [] true)] [(0, 1, (.t 36))], none⟩, ⟨(some 38), .call (.c (.func 15 [])) [], none⟩, ⟨(some 39), .move (.t 7), none⟩, ⟨(some 40), .call (.c (.func 14 [])) [(.t 37), (.c (.val (.int .i64 3))), (.c (.val (.int .i64 2))), (.t 38), (.t 39)], none⟩, ⟨(some 34), .move (.t 40), none⟩, ⟨(some 41), .ext 0 (.t 34), none⟩, ⟨(some 42), .ext 1 (.t 34), none⟩, ⟨(some 8), .box (.c (.agg [(.val (.int .i64 0)), (.sl 0 [] true)])), none⟩, ⟨none, .store 2 (.t 8) (.t 41), none⟩, ⟨(some 9), .move (.t 42), none⟩])
  (.seq (.reg [⟨(some 10), .move (.c (.val (.int .i64 0))), none⟩])
  (.seq (.seq (.reg [⟨(some 11), .move (.c (.val (.int .i64 0))), none⟩])
  (.block 0 (.loop (.seq (.seq (.reg [⟨(some 43), .move (.t 11), none⟩, ⟨(some 44), .bin .lss (.t 43) (.c (.val (.int .i64 25))), none⟩, ⟨(some 45), .move (.t 44), none⟩, ⟨(some 46), .move (.t 9), (some (45, true))⟩, ⟨(some 47), .bin .eql (.t 46) (.c (.val (.int .i64 0))), (some (45, true))⟩, ⟨(some 48), .pick (.t 45) (.t 47) (.c (.val (.bool false))), none⟩])
  (.cond (.t 48) (.skip) (.exit 0)))
  (.seq (.block 1 (.seq (.reg [⟨(some 52), .load true 2 (.t 8), none⟩, ⟨(some 53), .faddr 0 (.t 8), none⟩, ⟨(some 54), .load false 1 (.t 53), none⟩, ⟨(some 55), .move (.t 6), none⟩, ⟨(some 56), .bin .add (.t 54) (.t 55), none⟩, ⟨(some 57), .call (.c (.func 23 [])) [(.t 52), (.t 56)], none⟩, ⟨(some 51), .move (.t 57), none⟩, ⟨(some 58), .ext 0 (.t 51), none⟩, ⟨(some 59), .ext 1 (.t 51), none⟩, ⟨none, .store 2 (.t 8) (.t 58), none⟩, ⟨(some 9), .move (.t 59), none⟩])
  (.seq (.seq (.reg [⟨(some 61), .load true 2 (.t 8), none⟩, ⟨(some 62), .call (.c (.func 18 [])) [(.t 61), (.c (.val (.int .i64 3))), (.c (.val (.int .i64 2)))], none⟩, ⟨(some 60), .move (.t 62), none⟩, ⟨(some 63), .ext 0 (.t 60), none⟩, ⟨(some 64), .ext 1 (.t 60), none⟩, ⟨(some 12), .box (.c (.agg [(.val (.int .i64 0)), (.val (.int .i64 0)), (.val (.int .i64 0)), (.sl 0 [] true), (.val (.int .i64 0))])), none⟩, ⟨none, .store 5 (.t 12) (.t 63), none⟩, ⟨(some 13), .move (.t 64), none⟩])
  (.seq (.reg [⟨(some 65), .move (.t 13), none⟩, ⟨(some 66), .un .not (.t 65), none⟩, ⟨(some 67), .move (.t 66), none⟩, ⟨(some 68), .move (.t 9), (some (67, false))⟩, ⟨(some 69), .bin .neq (.t 68) (.c (.val (.int .i64 0))), (some (67, false))⟩, ⟨(some 70), .pick (.t 67) (.c (.val (.bool true))) (.t 69), none⟩])
  (.cond (.t 70) (.seq (.reg [⟨(some 4), .move (.c (.val (.bool false))), none⟩])
  (.ret)) (.skip))))
  (.seq (.seq (.reg [⟨(some 71), .move (.t 10), none⟩, ⟨(some 72), .bin .lss (.t 71) (.c (.val (.int .i64 2))), none⟩, ⟨(some 73), .move (.t 72), none⟩, ⟨(some 74), .move (.t 5), (some (73, true))⟩, ⟨(some 75), .call (.c (.func 24 [])) [(.t 74), (.c (.val (.int .i64 3)))], (some (73, true))⟩, ⟨(some 76), .bin .gtr (.t 75) (.c (.val (.int .i64 0))), (some (73, true))⟩, ⟨(some 77), .pick (.t 73) (.t 76) (.c (.val (.bool false))), none⟩])
  (.cond (.t 77) (.seq (.reg [⟨(some 78), .move (.t 10), none⟩, ⟨(some 79), .bin .add (.t 78) (.c (.val (.int .i64 1))), none⟩, ⟨(some 10), .move (.t 79), none⟩])
  (.exit 1)) (.skip)))
  (.seq (.reg [⟨(some 10), .move (.c (.val (.int .i64 0))), none⟩])
  (.dreg [⟨(some 81), .load true 2 (.t 8), none⟩, ⟨(some 82), .call (.c (.func 15 [])) [], none⟩, ⟨(some 83), .move (.t 7), none⟩, ⟨(some 84), .call (.c (.func 14 [])) [(.t 81), (.c (.val (.int .i64 3))), (.c (.val (.int .i64 2))), (.t 82), (.t 83)], none⟩, ⟨(some 80), .move (.t 84), none⟩, ⟨(some 85), .ext 0 (.t 80), none⟩, ⟨(some 86), .ext 1 (.t 80), none⟩, ⟨none, .store 2 (.t 8) (.t 85), none⟩, ⟨(some 9), .move (.t 86), none⟩] [(0, 1)]))))))
  (.reg [⟨(some 49), .move (.t 11), none⟩, ⟨(some 50), .bin .add (.t 49) (.c (.val (.int .i64 1))), none⟩, ⟨(some 11), .move (.t 50), none⟩]))))))
  (.seq (.reg [⟨(some 88), .load true 2 (.t 8), none⟩, ⟨(some 89), .call (.c (.func 18 [])) [(.t 88), (.c (.val (.int .i64 3))), (.c (.val (.int .i64 2)))], none⟩, ⟨(some 87), .move (.t 89), none⟩, ⟨(some 90), .ext 0 (.t 87), none⟩, ⟨(some 91), .ext 1 (.t 87), none⟩, ⟨(some 14), .box (.c (.agg [(.val (.int .i64 0)), (.val (.int .i64 0)), (.val (.int .i64 0)), (.sl 0 [] true), (.val (.int .i64 0))])), none⟩, ⟨none, .store 5 (.t 14) (.t 90), none⟩, ⟨(some 15), .move (.t 91), none⟩])
  (.seq (.seq (.reg [⟨(some 92), .move (.t 9), none⟩, ⟨(some 93), .bin .neq (.t 92) (.c (.val (.int .i64 0))), none⟩, ⟨(some 94), .move (.t 93), none⟩, ⟨(some 95), .move (.t 15), (some (94, false))⟩, ⟨(some 96), .un .not (.t 95), (some (94, false))⟩, ⟨(some 97), .pick (.t 94) (.c (.val (.bool true))) (.t 96), none⟩])
  (.cond (.t 97) (.seq (.reg [⟨(some 4), .move (.c (.val (.bool false))), none⟩])
  (.ret)) (.skip)))
  (.seq (.reg [⟨(some 99), .load true 2 (.t 8), none⟩, ⟨(some 100), .faddr 4 (.t 14), none⟩, ⟨(some 101), .load false 1 (.t 100), none⟩, ⟨(some 102), .call (.c (.func 23 [])) [(.t 99), (.t 101)], none⟩, ⟨(some 98), .move (.t 102), none⟩, ⟨(some 103), .ext 0 (.t 98), none⟩, ⟨(some 104), .ext 1 (.t 98), none⟩, ⟨(some 16), .box (.c (.agg [(.val (.int .i64 0)), (.sl 0 [] true)])), none⟩, ⟨none, .store 2 (.t 16) (.t 103), none⟩, ⟨(some 17), .move (.t 104), none⟩])
  (.seq (.reg [⟨(some 106), .load true 2 (.t 8), none⟩, ⟨(some 107), .faddr 4 (.t 14), none⟩, ⟨(some 108), .load false 1 (.t 107), none⟩, ⟨(some 109), .bin .add (.t 108) (.c (.val (.int .i64 1))), none⟩, ⟨(some 110), .call (.c (.func 23 [])) [(.t 106), (.t 109)], none⟩, ⟨(some 105), .move (.t 110), none⟩, ⟨(some 111), .ext 0 (.t 105), none⟩, ⟨(some 112), .ext 1 (.t 105), none⟩, ⟨(some 18), .box (.c (.agg [(.val (.int .i64 0)), (.sl 0 [] true)])), none⟩, ⟨none, .store 2 (.t 18) (.t 111), none⟩, ⟨(some 19), .move (.t 112), none⟩])
  (.seq (.reg [⟨(some 114), .load true 2 (.t 16), none⟩, ⟨(some 115), .call (.c (.func 18 [])) [(.t 114), (.c (.val (.int .i64 3))), (.c (.val (.int .i64 2)))], none⟩, ⟨(some 113), .move (.t 115), none⟩, ⟨(some 116), .ext 0 (.t 113), none⟩, ⟨(some 117), .ext 1 (.t 113), none⟩, ⟨(some 20), .box (.c (.agg [(.val (.int .i64 0)), (.val (.int .i64 0)), (.val (.int .i64 0)), (.sl 0 [] true), (.val (.int .i64 0))])), none⟩, ⟨none, .store 5 (.t 20) (.t 116), none⟩, ⟨(some 21), .move (.t 117), none⟩])
  (.seq (.reg [⟨(some 119), .load true 2 (.t 18), none⟩, ⟨(some 120), .call (.c (.func 18 [])) [(.t 119), (.c (.val (.int .i64 3))), (.c (.val (.int .i64 2)))], none⟩, ⟨(some 118), .move (.t 120), none⟩, ⟨(some 121), .ext 0 (.t 118), none⟩, ⟨(some 122), .ext 1 (.t 118), none⟩, ⟨(some 22), .box (.c (.agg [(.val (.int .i64 0)), (.val (.int .i64 0)), (.val (.int .i64 0)), (.sl 0 [] true), (.val (.int .i64 0))])), none⟩, ⟨none, .store 5 (.t 22) (.t 121), none⟩, ⟨(some 23), .move (.t 122), none⟩])
  (.seq (.reg [⟨(some 123), .move (.t 17), none⟩, ⟨(some 124), .bin .eql (.t 123) (.c (.val (.int .i64 0))), none⟩, ⟨(some 125), .move (.t 124), none⟩, ⟨(some 126), .move (.t 19), (some (125, true))⟩, ⟨(some 127), .bin .eql (.t 126) (.c (.val (.int .i64 0))), (some (125, true))⟩, ⟨(some 128), .pick (.t 125) (.t 127) (.c (.val (.bool false))), none⟩, ⟨(some 129), .move (.t 128), none⟩, ⟨(some 130), .move (.t 21), (some (129, true))⟩, ⟨(some 131), .pick (.t 129) (.t 130) (.c (.val (.bool false))), none⟩, ⟨(some 132), .move (.t 131), none⟩, ⟨(some 133), .move (.t 23), (some (132, true))⟩, ⟨(some 134), .un .not (.t 133), (some (132, true))⟩, ⟨(some 135), .pick (.t 132) (.t 134) (.c (.val (.bool false))), none⟩, ⟨(some 136), .move (.t 135), none⟩, ⟨(some 137), .call (.c (.func 20 [])) [], (some (136, true))⟩, ⟨(some 138), .pick (.t 136) (.t 137) (.c (.val (.bool false))), none⟩, ⟨(some 4), .move (.t 138), none⟩])
  (.ret))))))))))))))⟩
theorem cf6_ok : cFunc Try.prog Try.f6 = some cf6 := by kernel_rfl

/-- bitcast/bitcastlaw23.MemberLeaves -/
def cf7 : AF :=
  ⟨160, 1, [.tmp 2],
  .seq (.reg [⟨(some 2), .move (.c (.val (.bool false))), none⟩])
  (.seq (.reg [⟨(some 20), .move (.t 0), none⟩, ⟨(some 21), .call (.c (.func 9 [])) [(.t 20)], none⟩, ⟨(some 3), .move (.t 21), none⟩])
  (.seq (.reg [⟨(some 22), .move (.t 3), none⟩, ⟨(some 23), .call (.c (.func 21 [])) [(.t 22), (.c (.val (.int .i64 8)))], none⟩, ⟨(some 4), .box (.c (.agg [(.val (.int .i64 0)), (.sl 0 [] true)])), none⟩, ⟨none, .store 2 (.t 4) (.t 23), none⟩])
  (.seq (.seq (.reg [⟨(some 24), .faddr 1 (.t 4), none⟩, ⟨(some 25), .load false 1 (.t 24), none⟩, ⟨(some 26), .len (.t 25), none⟩, ⟨(some 27), .bin .eql (.t 26) (.c (.val (.int .i64 0))), none⟩])
  (.cond (.t 27) (.seq (.reg [⟨(some 28), .call (.c (.func 20 [])) [], none⟩, ⟨(some 2), .move (.t 28), none⟩])
  (.ret)) (.skip)))
  (.seq (.dreg [⟨(some 29), .faddr 1 (.t 4), none⟩, ⟨(some 30), .load false 1 (.t 29), none⟩, ⟨(some 31), .move (.t 3), none⟩, ⟨(some 32), .faddr 1 (.t 4), none⟩, ⟨(some 33), .load false 1 (.t 32), none⟩, ⟨(some 34), .len (.t 33), none⟩, ⟨(some 35), .call (.c (.func 24 [])) [(.t 31), (.t 34)], none⟩, ⟨(some 36), .iaddr 5 (.t 30) (.t 35), none⟩, ⟨(some 37), .load true 5 (.t 36), none⟩, ⟨(some 5), .box (.c (.agg [(.val (.int .i64 0)), (.val (.int .i64 0)), (.val (.int .i64 0)), (.sl 0 [] true), (.val (.int .i64 0))])), none⟩, ⟨none, .store 5 (.t 5) (.t 37), none⟩] [(1, 4), (1, 5), (1, 6), (1, 9), (4, 9), (5, 9), (6, 9), (7, 9), (8, 9)])
  (.seq (.reg [⟨(some 38), .move (.t 3), none⟩, ⟨(some 39), .call (.c (.func 24 [])) [(.t 38), (.c (.val (.int .i64 40)))], none⟩, ⟨(some 6), .move (.t 39), none⟩])
  (.seq (.reg [⟨(some 41), .load true 2 (.t 4), none⟩, ⟨(some 42), .faddr 0 (.t 5), none⟩, ⟨(some 43), .load false 1 (.t 42), none⟩, ⟨(some 44), .faddr 1 (.t 5), none⟩, ⟨(some 45), .load false 1 (.t 44), none⟩, ⟨(some 46), .move (.t 6), none⟩, ⟨(some 47), .call (.c (.func 26 [])) [(.t 41), (.t 43), (.t 45), (.t 46)], none⟩, ⟨(some 40), .move (.t 47), none⟩, ⟨(some 48), .ext 0 (.t 40), none⟩, ⟨(some 49), .ext 1 (.t 40), none⟩, ⟨(some 7), .box (.c (.agg [(.val (.int .i64 0)), (.sl 0 [] true)])), none⟩, ⟨none, .store 2 (.t 7) (.t 48), none⟩, ⟨(some 8), .move (.t 49), none⟩])
  (.seq (.seq (.reg [⟨(some 50), .move (.t 8), none⟩, ⟨(some 51), .bin .neq (.t 50) (.c (.val (.int .i64 0))), none⟩])
  (.cond (.t 51) (.seq (.reg [⟨(some 2), .move (.c (.val (.bool false))), none⟩])
  (.ret)) (.skip)))
  (.seq (.reg [⟨(some 53), .load true 2 (.t 7), none⟩, ⟨(some 54), .faddr 0 (.t 5), none⟩, ⟨(some 55), .load false 1 (.t 54), none⟩, ⟨(some 56), .faddr 1 (.t 5), none⟩, ⟨(some 57), .load false 1 (.t 56), none⟩, ⟨(some 58), .call (.c (.func 18 [])) [(.t 53), (.t 55), (.t 57)], none⟩, ⟨(some 52), .move (.t 58), none⟩, ⟨(some 59), .ext 0 (.t 52), none⟩, ⟨(some 60), .ext 1 (.t 52), none⟩, ⟨(some 9), .box (.c (.agg [(.val (.int .i64 0)), (.val (.int .i64 0)), (.val (.int .i64 0)), (.sl 0 [] true), (.val (.int .i64 0))])), none⟩, ⟨none, .store 5 (.t 9) (.t 59), none⟩, ⟨(some 10), .move (.t 60), none⟩])
  (.seq (.seq (.reg [⟨(some 61), .move (.t 10), none⟩, ⟨(some 62), .move (.t 6), none⟩, ⟨(some 63), .bin .gtr (.t 62) (.c (.val (.int .i64 0))), none⟩, ⟨(some 64), .binB .neq (.t 61) (.t 63), none⟩, ⟨(some 65), .move (.t 64), none⟩, ⟨(some 66), .move (.t 10), (some (65, false))⟩, ⟨(some 67), .move (.t 66), (some (65, false))⟩, ⟨(some 68), .faddr 4 (.t 9), (some (67, true))⟩, ⟨(some 69), .load false 1 (.t 68), (some (67, true))⟩, ⟨(some 70), .faddr 4 (.t 5), (some (67, true))⟩, ⟨(some 71), .load false 1 (.t 70), (some (67, true))⟩, ⟨(some 72), .faddr 0 (.t 4), (some (67, true))⟩, ⟨(some 73), .load false 1 (.t 72), (some (67, true))⟩, ⟨(some 74), .move (.t 6), (some (67, true))⟩, ⟨(some 75), .bin .add (.t 73) (.t 74), (some (67, true))⟩, ⟨(some 76), .min [(.t 71), (.t 75)], (some (67, true))⟩, ⟨(some 77), .bin .neq (.t 69) (.t 76), (some (67, true))⟩, ⟨(some 78), .move (.t 77), (some (67, true))⟩, ⟨(some 79), .faddr 2 (.t 5), (some (78, false))⟩, ⟨(some 80), .load true 2 (.t 79), (some (78, false))⟩, ⟨(some 81), .faddr 2 (.t 9), (some (78, false))⟩, ⟨(some 82), .load true 2 (.t 81), (some (78, false))⟩, ⟨(some 83), .call (.c (.func 27 [])) [(.t 80), (.t 82)], (some (78, false))⟩, ⟨(some 84), .un .not (.t 83), (some (78, false))⟩, ⟨(some 85), .pick (.t 78) (.c (.val (.bool true))) (.t 84), (some (67, true))⟩, ⟨(some 86), .pick (.t 67) (.t 85) (.c (.val (.bool false))), (some (65, false))⟩, ⟨(some 87), .pick (.t 65) (.c (.val (.bool true))) (.t 86), none⟩])
  (.cond (.t 87) (.seq (.reg [⟨(some 2), .move (.c (.val (.bool false))), none⟩])
  (.ret)) (.skip)))
  (.seq (.reg [⟨(some 89), .load true 2 (.t 7), none⟩, ⟨(some 90), .faddr 0 (.t 4), none⟩, ⟨(some 91), .load false 1 (.t 90), none⟩, ⟨(some 92), .move (.t 6), none⟩, ⟨(some 93), .bin .add (.t 91) (.t 92), none⟩, ⟨(some 94), .bin .add (.t 93) (.c (.val (.int .i64 1))), none⟩, ⟨(some 95), .call (.c (.func 23 [])) [(.t 89), (.t 94)], none⟩, ⟨(some 88), .move (.t 95), none⟩, ⟨(some 96), .ext 0 (.t 88), none⟩, ⟨(some 97), .ext 1 (.t 88), none⟩, ⟨(some 11), .box (.c (.agg [(.val (.int .i64 0)), (.sl 0 [] true)])), none⟩, ⟨none, .store 2 (.t 11) (.t 96), none⟩, ⟨(some 12), .move (.t 97), none⟩])
  (.seq (.seq (.reg [⟨(some 99), .load true 2 (.t 11), none⟩, ⟨(some 100), .faddr 0 (.t 5), none⟩, ⟨(some 101), .load false 1 (.t 100), none⟩, ⟨(some 102), .faddr 1 (.t 5), none⟩, ⟨(some 103), .load false 1 (.t 102), none⟩, ⟨(some 104), .call (.c (.func 18 [])) [(.t 99), (.t 101), (.t 103)], none⟩, ⟨(some 98), .move (.t 104), none⟩, ⟨(some 105), .ext 0 (.t 98), none⟩, ⟨(some 106), .ext 1 (.t 98), none⟩, ⟨(some 13), .box (.c (.agg [(.val (.int .i64 0)), (.val (.int .i64 0)), (.val (.int .i64 0)), (.sl 0 [] true), (.val (.int .i64 0))])), none⟩, ⟨none, .store 5 (.t 13) (.t 105), none⟩, ⟨(some 14), .move (.t 106), none⟩])
  (.seq (.reg [⟨(some 107), .move (.t 12), none⟩, ⟨(some 108), .bin .neq (.t 107) (.c (.val (.int .i64 0))), none⟩, ⟨(some 109), .move (.t 108), none⟩, ⟨(some 110), .move (.t 14), (some (109, false))⟩, ⟨(some 111), .pick (.t 109) (.c (.val (.bool true))) (.t 110), none⟩])
  (.cond (.t 111) (.seq (.reg [⟨(some 2), .move (.c (.val (.bool false))), none⟩])
  (.ret)) (.skip))))
  (.seq (.reg [⟨(some 15), .move (.c (.val (.int .i64 0))), none⟩])
  (.seq (.seq (.reg [⟨(some 112), .faddr 1 (.t 4), none⟩, ⟨(some 113), .load false 1 (.t 112), none⟩, ⟨(some 114), .len (.t 113), none⟩, ⟨(some 115), .move (.c (.val (.int .i64 0))), none⟩])
  (.block 0 (.loop (.seq (.reg [⟨(some 116), .bin .lss (.t 115) (.t 114), none⟩])
  (.seq (.cond (.t 116) (.skip) (.exit 0))
  (.seq (.block 1 (.seq (.reg [⟨(some 117), .iaddr 5 (.t 113) (.t 115), none⟩, ⟨(some 118), .load true 5 (.t 117), none⟩, ⟨(some 17), .box (.c (.agg [(.val (.int .i64 0)), (.val (.int .i64 0)), (.val (.int .i64 0)), (.sl 0 [] true), (.val (.int .i64 0))])), none⟩, ⟨none, .store 5 (.t 17) (.t 118), none⟩])
  (.seq (.seq (.reg [⟨(some 119), .faddr 0 (.t 17), none⟩, ⟨(some 120), .load false 1 (.t 119), none⟩, ⟨(some 121), .faddr 0 (.t 5), none⟩, ⟨(some 122), .load false 1 (.t 121), none⟩, ⟨(some 123), .bin .eql (.t 120) (.t 122), none⟩, ⟨(some 124), .move (.t 123), none⟩, ⟨(some 125), .faddr 1 (.t 17), (some (124, true))⟩, ⟨(some 126), .load false 1 (.t 125), (some (124, true))⟩, ⟨(some 127), .faddr 1 (.t 5), (some (124, true))⟩, ⟨(some 128), .load false 1 (.t 127), (some (124, true))⟩, ⟨(some 129), .bin .eql (.t 126) (.t 128), (some (124, true))⟩, ⟨(some 130), .pick (.t 124) (.t 129) (.c (.val (.bool false))), none⟩])
  (.cond (.t 130) (.exit 1) (.skip)))
  (.seq (.reg [⟨(some 132), .load true 2 (.t 7), none⟩, ⟨(some 133), .faddr 0 (.t 17), none⟩, ⟨(some 134), .load false 1 (.t 133), none⟩, ⟨(some 135), .faddr 1 (.t 17), none⟩, ⟨(some 136), .load false 1 (.t 135), none⟩, ⟨(some 137), .call (.c (.func 18 [])) [(.t 132), (.t 134), (.t 136)], none⟩, ⟨(some 131), .move (.t 137), none⟩, ⟨(some 138), .ext 0 (.t 131), none⟩, ⟨(some 139), .ext 1 (.t 131), none⟩, ⟨(some 18), .box (.c (.agg [(.val (.int .i64 0)), (.val (.int .i64 0)), (.val (.int .i64 0)), (.sl 0 [] true), (.val (.int .i64 0))])), none⟩, ⟨none, .store 5 (.t 18) (.t 138), none⟩, ⟨(some 19), .move (.t 139), none⟩])
  (.seq (.seq (.reg [⟨(some 140), .move (.t 19), none⟩, ⟨(some 141), .un .not (.t 140), none⟩, ⟨(some 142), .move (.t 141), none⟩, ⟨(some 143), .load true 5 (.t 17), (some (142, false))⟩, ⟨(some 144), .load true 5 (.t 18), (some (142, false))⟩, ⟨(some 145), .call (.c (.func 28 [])) [(.t 143), (.t 144)], (some (142, false))⟩, ⟨(some 146), .un .not (.t 145), (some (142, false))⟩, ⟨(some 147), .pick (.t 142) (.c (.val (.bool true))) (.t 146), none⟩])
  (.cond (.t 147) (.seq (.reg [⟨(some 2), .move (.c (.val (.bool false))), none⟩])
  (.ret)) (.skip)))
  (.reg [⟨(some 148), .move (.t 15), none⟩, ⟨(some 149), .bin .add (.t 148) (.c (.val (.int .i64 1))), none⟩, ⟨(some 15), .move (.t 149), none⟩]))))))
  (.reg [⟨(some 150), .bin .add (.t 115) (.c (.val (.int .i64 1))), none⟩, ⟨(some 115), .move (.t 150), none⟩])))))))
  (.seq (.reg [⟨(some 151), .move (.t 15), none⟩, ⟨(some 152), .faddr 1 (.t 4), none⟩, ⟨(some 153), .load false 1 (.t 152), none⟩, ⟨(some 154), .len (.t 153), none⟩, ⟨(some 155), .bin .sub (.t 154) (.c (.val (.int .i64 1))), none⟩, ⟨(some 156), .bin .eql (.t 151) (.t 155), none⟩, ⟨(some 157), .move (.t 156), none⟩, ⟨(some 158), .call (.c (.func 20 [])) [], (some (157, true))⟩, ⟨(some 159), .pick (.t 157) (.t 158) (.c (.val (.bool false))), none⟩, ⟨(some 2), .move (.t 159), none⟩])
  (.ret)))))))))))))))⟩
theorem cf7_ok : cFunc Try.prog Try.f7 = some cf7 := by kernel_rfl

/-- bitcast/bitcastlaw23.MemberAnswers -/
def cf8 : AF :=
  ⟨216, 6, [.tmp 12],
  .seq (.reg [⟨(some 7), .box (.t 1), none⟩, ⟨(some 8), .box (.t 2), none⟩, ⟨(some 12), .move (.c (.val (.bool false))), none⟩])
  (.seq (.seq (.reg [⟨(some 38), .load true 2 (.t 7), none⟩, ⟨(some 39), .call (.c (.func 29 [])) [(.t 38)], none⟩, ⟨(some 40), .un .not (.t 39), none⟩, ⟨(some 41), .move (.t 40), none⟩, ⟨(some 42), .faddr 1 (.t 8), (some (41, false))⟩, ⟨(some 43), .load false 1 (.t 42), (some (41, false))⟩, ⟨(some 44), .len (.t 43), (some (41, false))⟩, ⟨(some 45), .bin .gtr (.t 44) (.c (.val (.int .i64 110))), (some (41, false))⟩, ⟨(some 46), .pick (.t 41) (.c (.val (.bool true))) (.t 45), none⟩])
  (.cond (.t 46) (.seq (.reg [⟨(some 47), .call (.c (.func 20 [])) [], none⟩, ⟨(some 12), .move (.t 47), none⟩])
  (.ret)) (.skip)))
  (.seq (.reg [⟨(some 48), .move (.t 0), none⟩, ⟨(some 49), .call (.c (.func 9 [])) [(.t 48)], none⟩, ⟨(some 13), .move (.t 49), none⟩])
  (.seq (.reg [⟨(some 50), .move (.t 13), none⟩, ⟨(some 51), .call (.c (.func 21 [])) [(.t 50), (.c (.val (.int .i64 10)))], none⟩, ⟨(some 14), .box (.c (.agg [(.val (.int .i64 0)), (.sl 0 [] true)])), none⟩, ⟨none, .store 2 (.t 14) (.t 51), none⟩])
  (.seq (.seq (.dreg [⟨(some 52), .load true 2 (.t 7), none⟩, ⟨(some 53), .load true 2 (.t 14), none⟩, ⟨(some 54), .move (.t 13), none⟩, ⟨(some 55), .load true 2 (.t 14), none⟩, ⟨(some 56), .call (.c (.func 30 [])) [(.t 54), (.t 55)], none⟩, ⟨(some 57), .lit 2 3 (.agg [(.val (.int .i64 0)), (.sl 0 [] true)]) [(0, (.t 52)), (1, (.t 53)), (2, (.t 56))], none⟩, ⟨(some 58), .len (.t 57), none⟩, ⟨(some 59), .move (.c (.val (.int .i64 0))), none⟩] [(0, 1), (0, 3), (1, 3), (0, 4), (1, 4)])
  (.block 0 (.loop (.seq (.reg [⟨(some 60), .bin .lss (.t 59) (.t 58), none⟩])
  (.seq (.cond (.t 60) (.skip) (.exit 0))
  (.seq (.block 1 (.seq (.reg [⟨(some 61), .iaddr 2 (.t 57) (.t 59), none⟩, ⟨(some 62), .load true 2 (.t 61), none⟩, ⟨(some 16), .box (.c (.agg [(.val (.int .i64 0)), (.sl 0 [] true)])), none⟩, ⟨none, .store 2 (.t 16) (.t 62), none⟩])
  (.seq (.seq (.dreg [⟨(some 63), .load true 2 (.t 16), none⟩, ⟨(some 64), .call (.c (.func 25 [])) [(.t 63)], none⟩, ⟨(some 65), .load true 2 (.t 16), none⟩, ⟨(some 66), .call (.c (.func 31 [])) [(.t 65)], none⟩, ⟨(some 67), .bin .neq (.t 64) (.t 66), none⟩, ⟨(some 68), .move (.t 67), none⟩, ⟨(some 69), .load true 2 (.t 16), (some (68, false))⟩, ⟨(some 70), .load true 2 (.t 14), (some (68, false))⟩, ⟨(some 71), .call (.c (.func 32 [])) [(.t 69), (.t 70)], (some (68, false))⟩, ⟨(some 72), .load true 2 (.t 16), (some (68, false))⟩, ⟨(some 73), .load true 2 (.t 14), (some (68, false))⟩, ⟨(some 74), .call (.c (.func 19 [])) [(.t 72), (.t 73)], (some (68, false))⟩, ⟨(some 75), .binB .neq (.t 71) (.t 74), (some (68, false))⟩, ⟨(some 76), .pick (.t 68) (.c (.val (.bool true))) (.t 75), none⟩, ⟨(some 77), .move (.t 76), none⟩, ⟨(some 78), .load true 2 (.t 16), (some (77, false))⟩, ⟨(some 79), .call (.c (.func 34 [])) [(.t 78)], (some (77, false))⟩, ⟨(some 80), .load true 2 (.t 16), (some (77, false))⟩, ⟨(some 81), .call (.c (.func 35 [])) [(.t 80)], (some (77, false))⟩, ⟨(some 82), .call (.c (.func 33 [])) [(.t 79), (.t 81)], (some (77, false))⟩, ⟨(some 83), .un .not (.t 82), (some (77, false))⟩, ⟨(some 84), .pick (.t 77) (.c (.val (.bool true))) (.t 83), none⟩] [(0, 2), (1, 2), (6, 7), (6, 9), (7, 9), (8, 9), (6, 10), (7, 10), (8, 10), (9, 10), (15, 17), (16, 17)])
  (.cond (.t 84) (.seq (.reg [⟨(some 12), .move (.c (.val (.bool false))), none⟩])
  (.ret)) (.skip)))
  (.seq (.reg [⟨(some 17), .move (.c (.val (.int .i64 0))), none⟩])
  (.block 2 (.loop (.seq (.seq (.reg [⟨(some 85), .move (.t 17), none⟩, ⟨(some 86), .bin .lss (.t 85) (.c (.val (.int .i64 3))), none⟩])
  (.cond (.t 86) (.skip) (.exit 2)))
  (.seq (.block 3 (.seq (.reg [⟨(some 89), .move (.t 13), none⟩, ⟨(some 90), .call (.c (.func 10 [])) [(.t 89), (.c (.val (.int .i64 0))), (.c (.val (.int .i64 9)))], none⟩, ⟨(some 91), .move (.t 13), none⟩, ⟨(some 92), .call (.c (.func 10 [])) [(.t 91), (.c (.val (.int .i64 0))), (.c (.val (.int .i64 5)))], none⟩, ⟨(some 93), .move (.t 13), none⟩, ⟨(some 94), .lit 1 5 (.val (.int .i64 0)) [(0, (.c (.val (.int .i64 0)))), (1, (.c (.val (.int .i64 1)))), (2, (.c (.val (.int .i64 30)))), (3, (.c (.val (.int .i64 1000)))), (4, (.c (.val (.int .i64 1001))))], none⟩, ⟨(some 95), .call (.c (.func 36 [])) [(.t 93), (.t 94)], none⟩, ⟨(some 96), .move (.t 13), none⟩, ⟨(some 97), .call (.c (.func 22 [])) [(.t 96)], none⟩, ⟨(some 21), .box (.c (.agg [(.val (.int .i64 0)), (.sl 0 [] true)])), none⟩, ⟨(some 18), .move (.t 90), none⟩, ⟨(some 19), .move (.t 92), none⟩, ⟨(some 20), .move (.t 95), none⟩, ⟨none, .store 2 (.t 21) (.t 97), none⟩])
  (.seq (.seq (.reg [⟨(some 98), .move (.t 17), none⟩, ⟨(some 99), .bin .eql (.t 98) (.c (.val (.int .i64 2))), none⟩])
  (.cond (.t 99) (.dreg [⟨(some 100), .move (.t 3), none⟩, ⟨(some 101), .move (.t 4), none⟩, ⟨(some 102), .move (.t 5), none⟩, ⟨(some 103), .load true 2 (.t 8), none⟩, ⟨(some 18), .move (.t 100), none⟩, ⟨(some 19), .move (.t 101), none⟩, ⟨(some 20), .move (.t 102), none⟩, ⟨none, .store 2 (.t 21) (.t 103), none⟩] []) (.skip)))
  (.seq (.reg [⟨(some 105), .load true 2 (.t 16), none⟩, ⟨(some 106), .move (.t 18), none⟩, ⟨(some 107), .move (.t 19), none⟩, ⟨(some 108), .load true 2 (.t 21), none⟩, ⟨(some 109), .move (.t 20), none⟩, ⟨(some 110), .call (.c (.func 14 [])) [(.t 105), (.t 106), (.t 107), (.t 108), (.t 109)], none⟩, ⟨(some 104), .move (.t 110), none⟩, ⟨(some 111), .ext 0 (.t 104), none⟩, ⟨(some 112), .ext 1 (.t 104), none⟩, ⟨(some 22), .box (.c (.agg [(.val (.int .i64 0)), (.sl 0 [] true)])), none⟩, ⟨none, .store 2 (.t 22) (.t 111), none⟩, ⟨(some 23), .move (.t 112), none⟩])
  (.seq (.reg [⟨(some 114), .load true 2 (.t 16), none⟩, ⟨(some 115), .move (.t 18), none⟩, ⟨(some 116), .move (.t 19), none⟩, ⟨(some 117), .load true 2 (.t 21), none⟩, ⟨(some 118), .move (.t 20), none⟩, ⟨(some 119), .call (.c (.func 37 [])) [(.t 114), (.t 115), (.t 116), (.t 117), (.t 118)], none⟩, ⟨(some 113), .move (.t 119), none⟩, ⟨(some 120), .ext 0 (.t 113), none⟩, ⟨(some 121), .ext 1 (.t 113), none⟩, ⟨(some 24), .box (.c (.agg [(.val (.int .i64 0)), (.sl 0 [] true)])), none⟩, ⟨none, .store 2 (.t 24) (.t 120), none⟩, ⟨(some 25), .move (.t 121), none⟩])
  (.seq (.reg [⟨(some 123), .load true 2 (.t 16), none⟩, ⟨(some 124), .move (.t 18), none⟩, ⟨(some 125), .move (.t 19), none⟩, ⟨(some 126), .move (.t 20), none⟩, ⟨(some 127), .call (.c (.func 26 [])) [(.t 123), (.t 124), (.t 125), (.t 126)], none⟩, ⟨(some 122), .move (.t 127), none⟩, ⟨(some 128), .ext 0 (.t 122), none⟩, ⟨(some 129), .ext 1 (.t 122), none⟩, ⟨(some 26), .box (.c (.agg [(.val (.int .i64 0)), (.sl 0 [] true)])), none⟩, ⟨none, .store 2 (.t 26) (.t 128), none⟩, ⟨(some 27), .move (.t 129), none⟩])
  (.seq (.reg [⟨(some 131), .load true 2 (.t 16), none⟩, ⟨(some 132), .move (.t 18), none⟩, ⟨(some 133), .move (.t 19), none⟩, ⟨(some 134), .move (.t 20), none⟩, ⟨(some 135), .call (.c (.func 38 [])) [(.t 131), (.t 132), (.t 133), (.t 134)], none⟩, ⟨(some 130), .move (.t 135), none⟩, ⟨(some 136), .ext 0 (.t 130), none⟩, ⟨(some 137), .ext 1 (.t 130), none⟩, ⟨(some 28), .box (.c (.agg [(.val (.int .i64 0)), (.sl 0 [] true)])), none⟩, ⟨none, .store 2 (.t 28) (.t 136), none⟩, ⟨(some 29), .move (.t 137), none⟩])
  (.seq (.reg [⟨(some 139), .load true 2 (.t 16), none⟩, ⟨(some 140), .faddr 0 (.t 16), none⟩, ⟨(some 141), .load false 1 (.t 140), none⟩, ⟨(some 142), .move (.t 20), none⟩, ⟨(some 143), .bin .add (.t 141) (.t 142), none⟩, ⟨(some 144), .bin .sub (.t 143) (.c (.val (.int .i64 1))), none⟩, ⟨(some 145), .call (.c (.func 23 [])) [(.t 139), (.t 144)], none⟩, ⟨(some 138), .move (.t 145), none⟩, ⟨(some 146), .ext 0 (.t 138), none⟩, ⟨(some 147), .ext 1 (.t 138), none⟩, ⟨(some 30), .box (.c (.agg [(.val (.int .i64 0)), (.sl 0 [] true)])), none⟩, ⟨none, .store 2 (.t 30) (.t 146), none⟩, ⟨(some 31), .move (.t 147), none⟩])
  (.seq (.reg [⟨(some 149), .load true 2 (.t 16), none⟩, ⟨(some 150), .faddr 0 (.t 16), none⟩, ⟨(some 151), .load false 1 (.t 150), none⟩, ⟨(some 152), .move (.t 20), none⟩, ⟨(some 153), .bin .add (.t 151) (.t 152), none⟩, ⟨(some 154), .bin .sub (.t 153) (.c (.val (.int .i64 1))), none⟩, ⟨(some 155), .call (.c (.func 39 [])) [(.t 149), (.t 154)], none⟩, ⟨(some 148), .move (.t 155), none⟩, ⟨(some 156), .ext 0 (.t 148), none⟩, ⟨(some 157), .ext 1 (.t 148), none⟩, ⟨(some 32), .box (.c (.agg [(.val (.int .i64 0)), (.sl 0 [] true)])), none⟩, ⟨none, .store 2 (.t 32) (.t 156), none⟩, ⟨(some 33), .move (.t 157), none⟩])
  (.seq (.reg [⟨(some 159), .load true 2 (.t 16), none⟩, ⟨(some 160), .move (.t 18), none⟩, ⟨(some 161), .move (.t 19), none⟩, ⟨(some 162), .call (.c (.func 18 [])) [(.t 159), (.t 160), (.t 161)], none⟩, ⟨(some 158), .move (.t 162), none⟩, ⟨(some 163), .ext 0 (.t 158), none⟩, ⟨(some 164), .ext 1 (.t 158), none⟩, ⟨(some 34), .box (.c (.agg [(.val (.int .i64 0)), (.val (.int .i64 0)), (.val (.int .i64 0)), (.sl 0 [] true), (.val (.int .i64 0))])), none⟩, ⟨none, .store 5 (.t 34) (.t 163), none⟩, ⟨(some 35), .move (.t 164), none⟩])
  (.seq (.reg [⟨(some 166), .load true 2 (.t 16), none⟩, ⟨(some 167), .move (.t 18), none⟩, ⟨(some 168), .move (.t 19), none⟩, ⟨(some 169), .call (.c (.func 40 [])) [(.t 166), (.t 167), (.t 168)], none⟩, ⟨(some 165), .move (.t 169), none⟩, ⟨(some 170), .ext 0 (.t 165), none⟩, ⟨(some 171), .ext 1 (.t 165), none⟩, ⟨(some 36), .box (.c (.agg [(.val (.int .i64 0)), (.val (.int .i64 0)), (.val (.int .i64 0)), (.sl 0 [] true), (.val (.int .i64 0))])), none⟩, ⟨none, .store 5 (.t 36) (.t 170), none⟩, ⟨(some 37), .move (.t 171), none⟩])
  (.seq (.reg [⟨(some 172), .move (.t 23), none⟩, ⟨(some 173), .move (.t 25), none⟩, ⟨(some 174), .bin .neq (.t 172) (.t 173), none⟩, ⟨(some 175), .move (.t 174), none⟩, ⟨(some 176), .move (.t 27), (some (175, false))⟩, ⟨(some 177), .move (.t 29), (some (175, false))⟩, ⟨(some 178), .bin .neq (.t 176) (.t 177), (some (175, false))⟩, ⟨(some 179), .pick (.t 175) (.c (.val (.bool true))) (.t 178), none⟩, ⟨(some 180), .move (.t 179), none⟩, ⟨(some 181), .move (.t 31), (some (180, false))⟩, ⟨(some 182), .move (.t 33), (some (180, false))⟩, ⟨(some 183), .bin .neq (.t 181) (.t 182), (some (180, false))⟩, ⟨(some 184), .pick (.t 180) (.c (.val (.bool true))) (.t 183), none⟩, ⟨(some 185), .move (.t 184), none⟩, ⟨(some 186), .move (.t 35), (some (185, false))⟩, ⟨(some 187), .move (.t 37), (some (185, false))⟩, ⟨(some 188), .binB .neq (.t 186) (.t 187), (some (185, false))⟩, ⟨(some 189), .pick (.t 185) (.c (.val (.bool true))) (.t 188), none⟩, ⟨(some 190), .move (.t 189), none⟩, ⟨(some 191), .load true 2 (.t 22), (some (190, false))⟩, ⟨(some 192), .load true 2 (.t 24), (some (190, false))⟩, ⟨(some 193), .call (.c (.func 19 [])) [(.t 191), (.t 192)], (some (190, false))⟩, ⟨(some 194), .un .not (.t 193), (some (190, false))⟩, ⟨(some 195), .pick (.t 190) (.c (.val (.bool true))) (.t 194), none⟩, ⟨(some 196), .move (.t 195), none⟩, ⟨(some 197), .load true 2 (.t 26), (some (196, false))⟩, ⟨(some 198), .load true 2 (.t 28), (some (196, false))⟩, ⟨(some 199), .call (.c (.func 19 [])) [(.t 197), (.t 198)], (some (196, false))⟩, ⟨(some 200), .un .not (.t 199), (some (196, false))⟩, ⟨(some 201), .pick (.t 196) (.c (.val (.bool true))) (.t 200), none⟩, ⟨(some 202), .move (.t 201), none⟩, ⟨(some 203), .load true 2 (.t 30), (some (202, false))⟩, ⟨(some 204), .load true 2 (.t 32), (some (202, false))⟩, ⟨(some 205), .call (.c (.func 19 [])) [(.t 203), (.t 204)], (some (202, false))⟩, ⟨(some 206), .un .not (.t 205), (some (202, false))⟩, ⟨(some 207), .pick (.t 202) (.c (.val (.bool true))) (.t 206), none⟩, ⟨(some 208), .move (.t 207), none⟩, ⟨(some 209), .load true 5 (.t 34), (some (208, false))⟩, ⟨(some 210), .load true 5 (.t 36), (some (208, false))⟩, ⟨(some 211), .call (.c (.func 28 [])) [(.t 209), (.t 210)], (some (208, false))⟩, ⟨(some 212), .un .not (.t 211), (some (208, false))⟩, ⟨(some 213), .pick (.t 208) (.c (.val (.bool true))) (.t 212), none⟩])
  (.cond (.t 213) (.seq (.reg [⟨(some 12), .move (.c (.val (.bool false))), none⟩])
  (.ret)) (.skip))))))))))))))
  (.reg [⟨(some 87), .move (.t 17), none⟩, ⟨(some 88), .bin .add (.t 87) (.c (.val (.int .i64 1))), none⟩, ⟨(some 17), .move (.t 88), none⟩])))))))))
  (.reg [⟨(some 214), .bin .add (.t 59) (.c (.val (.int .i64 1))), none⟩, ⟨(some 59), .move (.t 214), none⟩])))))))
  (.seq (.reg [⟨(some 215), .call (.c (.func 20 [])) [], none⟩, ⟨(some 12), .move (.t 215), none⟩])
  (.ret))))))⟩
theorem cf8_ok : cFunc Try.prog Try.f8 = some cf8 := by kernel_rfl

/-- bitcast/bitcastflow.New -/
def cf9 : AF :=
  ⟨10, 1, [.tmp 2],
  .seq (.reg [⟨(some 2), .move (.c (.val (.pointer none))), none⟩])
  (.seq (.reg [⟨(some 3), .move (.t 0), none⟩, ⟨(some 4), .move (.t 0), none⟩, ⟨(some 5), .len (.t 4), none⟩, ⟨(some 6), .min [(.t 5), (.c (.val (.int .i64 2000)))], none⟩, ⟨(some 7), .slice 1 (.t 3) none (some (.t 6)) none, none⟩, ⟨(some 8), .build [(.sl 0 [] true), (.val (.int .i64 0))] [(0, 1, (.t 7))], none⟩, ⟨(some 9), .box (.t 8), none⟩, ⟨(some 2), .move (.t 9), none⟩])
  (.ret))⟩
theorem cf9_ok : cFunc Try.prog Try.f9 = some cf9 := by kernel_rfl

/-- (*bitcast/bitcastflow.Tape).Range -/
def cf10 : AF :=
  ⟨15, 3, [.tmp 6],
  .seq (.reg [⟨(some 6), .move (.c (.val (.int .i64 0))), none⟩])
  (.seq (.reg [⟨(some 7), .move (.t 1), none⟩, ⟨(some 8), .move (.t 0), none⟩, ⟨(some 9), .move (.t 2), none⟩, ⟨(some 10), .move (.t 1), none⟩, ⟨(some 11), .bin .sub (.t 9) (.t 10), none⟩, ⟨(some 12), .bin .add (.t 11) (.c (.val (.int .i64 1))), none⟩, ⟨(some 13), .call (.c (.func 24 [])) [(.t 8), (.t 12)], none⟩, ⟨(some 14), .bin .add (.t 7) (.t 13), none⟩, ⟨(some 6), .move (.t 14), none⟩])
  (.ret))⟩
theorem cf10_ok : cFunc Try.prog Try.f10 = some cf10 := by kernel_rfl

/-- bitcast/flows.Wrap -/
def cf11 : AF :=
  ⟨25, 2, [.tmp 4, .tmp 5],
  .seq (.reg [⟨(some 2), .box (.t 0), none⟩, ⟨(some 4), .move (.c (.val (.string ⟨#[]⟩))), none⟩, ⟨(some 5), .move (.c (.val (.int .i64 0))), none⟩])
  (.seq (.seq (.reg [⟨(some 7), .load true 2 (.t 2), none⟩, ⟨(some 8), .call (.c (.func 41 [])) [(.t 7)], none⟩, ⟨(some 9), .un .not (.t 8), none⟩])
  (.cond (.t 9) (.seq (.reg [⟨(some 4), .move (.c (.val (.string ⟨#[]⟩))), none⟩, ⟨(some 5), .move (.c (.val (.int .i64 2))), none⟩])
  (.ret)) (.skip)))
  (.seq (.reg [⟨(some 10), .faddr 0 (.t 2), none⟩, ⟨(some 11), .load false 1 (.t 10), none⟩, ⟨(some 12), .convI .u8 (.t 11), none⟩, ⟨(some 13), .faddr 1 (.t 2), none⟩, ⟨(some 14), .load false 1 (.t 13), none⟩, ⟨(some 15), .convI .u8 (.t 14), none⟩, ⟨(some 16), .build [(.val (.int .u8 0)), (.val (.int .u8 0))] [(0, 1, (.t 12)), (1, 1, (.t 15))], none⟩, ⟨(some 6), .box (.c (.agg [(.val (.int .u8 0)), (.val (.int .u8 0))])), none⟩, ⟨none, .store 2 (.t 6) (.t 16), none⟩])
  (.seq (.seq (.reg [⟨(some 17), .move (.t 1), none⟩, ⟨(some 18), .lenS (.t 17), none⟩, ⟨(some 19), .bin .add (.c (.val (.int .i64 2))) (.t 18), none⟩, ⟨(some 20), .bin .gtr (.t 19) (.c (.val (.int .i64 64))), none⟩])
  (.cond (.t 20) (.seq (.reg [⟨(some 4), .move (.c (.val (.string ⟨#[]⟩))), none⟩, ⟨(some 5), .move (.c (.val (.int .i64 3))), none⟩])
  (.ret)) (.skip)))
  (.seq (.reg [⟨(some 21), .sliceA 2 1 (.t 6) none none, none⟩, ⟨(some 22), .convBS (.t 21), none⟩, ⟨(some 23), .move (.t 1), none⟩, ⟨(some 24), .bin .add (.t 22) (.t 23), none⟩, ⟨(some 4), .move (.t 24), none⟩, ⟨(some 5), .move (.c (.val (.int .i64 0))), none⟩])
  (.ret)))))⟩
theorem cf11_ok : cFunc Try.prog Try.f11 = some cf11 := by kernel_rfl

/-- bitcast/flows.Unwrap -/
def cf12 : AF :=
  ⟨24, 1, [.cell 2 true 2, .tmp 3, .tmp 4],
  .seq (.reg [⟨(some 2), .box (.c (.agg [(.val (.int .i64 0)), (.val (.int .i64 0))])), none⟩, ⟨(some 3), .move (.c (.val (.string ⟨#[]⟩))), none⟩, ⟨(some 4), .move (.c (.val (.int .i64 0))), none⟩])
  (.seq (.seq (.reg [⟨(some 6), .move (.t 0), none⟩, ⟨(some 7), .lenS (.t 6), none⟩, ⟨(some 8), .bin .lss (.t 7) (.c (.val (.int .i64 2))), none⟩])
  (.cond (.t 8) (.seq (.reg [⟨(some 9), .build [(.val (.int .i64 0)), (.val (.int .i64 0))] [], none⟩, ⟨none, .store 2 (.t 2) (.t 9), none⟩, ⟨(some 3), .move (.c (.val (.string ⟨#[]⟩))), none⟩, ⟨(some 4), .move (.c (.val (.int .i64 20))), none⟩])
  (.ret)) (.skip)))
  (.seq (.dreg [⟨(some 10), .move (.t 0), none⟩, ⟨(some 11), .indexS (.t 10) (.c (.val (.int .i64 0))), none⟩, ⟨(some 12), .convI .i64 (.t 11), none⟩, ⟨(some 13), .move (.t 0), none⟩, ⟨(some 14), .indexS (.t 13) (.c (.val (.int .i64 1))), none⟩, ⟨(some 15), .convI .i64 (.t 14), none⟩, ⟨(some 16), .build [(.val (.int .i64 0)), (.val (.int .i64 0))] [(0, 1, (.t 12)), (1, 1, (.t 15))], none⟩, ⟨(some 5), .box (.c (.agg [(.val (.int .i64 0)), (.val (.int .i64 0))])), none⟩, ⟨none, .store 2 (.t 5) (.t 16), none⟩] [])
  (.seq (.seq (.reg [⟨(some 17), .load true 2 (.t 5), none⟩, ⟨(some 18), .call (.c (.func 41 [])) [(.t 17)], none⟩, ⟨(some 19), .un .not (.t 18), none⟩])
  (.cond (.t 19) (.seq (.reg [⟨(some 20), .build [(.val (.int .i64 0)), (.val (.int .i64 0))] [], none⟩, ⟨none, .store 2 (.t 2) (.t 20), none⟩, ⟨(some 3), .move (.c (.val (.string ⟨#[]⟩))), none⟩, ⟨(some 4), .move (.c (.val (.int .i64 2))), none⟩])
  (.ret)) (.skip)))
  (.seq (.dreg [⟨(some 21), .load true 2 (.t 5), none⟩, ⟨(some 22), .move (.t 0), none⟩, ⟨(some 23), .sliceS (.t 22) (some (.c (.val (.int .i64 2)))) none, none⟩, ⟨none, .store 2 (.t 2) (.t 21), none⟩, ⟨(some 3), .move (.t 23), none⟩, ⟨(some 4), .move (.c (.val (.int .i64 0))), none⟩] [])
  (.ret)))))⟩
theorem cf12_ok : cFunc Try.prog Try.f12 = some cf12 := by kernel_rfl

/-- bitcast/bitcastlaw28.awake -/
def cf13 : AF :=
  ⟨36, 0, [.tmp 0],
  .seq (.reg [⟨(some 0), .move (.c (.val (.bool false))), none⟩])
  (.seq (.reg [⟨(some 7), .build [(.val (.int .i64 0)), (.val (.int .i64 0))] [(0, 1, (.c (.val (.int .i64 1)))), (1, 1, (.c (.val (.int .i64 4))))], none⟩, ⟨(some 8), .call (.c (.func 11 [])) [(.t 7), (.c (.val (.string ⟨#[120]⟩)))], none⟩, ⟨(some 6), .move (.t 8), none⟩, ⟨(some 9), .ext 0 (.t 6), none⟩, ⟨(some 10), .ext 1 (.t 6), none⟩, ⟨(some 1), .move (.t 9), none⟩, ⟨(some 2), .move (.t 10), none⟩])
  (.seq (.reg [⟨(some 12), .move (.t 1), none⟩, ⟨(some 13), .call (.c (.func 12 [])) [(.t 12)], none⟩, ⟨(some 11), .move (.t 13), none⟩, ⟨(some 14), .ext 0 (.t 11), none⟩, ⟨(some 15), .ext 1 (.t 11), none⟩, ⟨(some 16), .ext 2 (.t 11), none⟩, ⟨(some 3), .box (.c (.agg [(.val (.int .i64 0)), (.val (.int .i64 0))])), none⟩, ⟨none, .store 2 (.t 3) (.t 14), none⟩, ⟨(some 4), .move (.t 15), none⟩, ⟨(some 5), .move (.t 16), none⟩])
  (.seq (.reg [⟨(some 17), .move (.t 2), none⟩, ⟨(some 18), .bin .eql (.t 17) (.c (.val (.int .i64 0))), none⟩, ⟨(some 19), .move (.t 18), none⟩, ⟨(some 20), .move (.t 5), (some (19, true))⟩, ⟨(some 21), .bin .eql (.t 20) (.c (.val (.int .i64 0))), (some (19, true))⟩, ⟨(some 22), .pick (.t 19) (.t 21) (.c (.val (.bool false))), none⟩, ⟨(some 23), .move (.t 22), none⟩, ⟨(some 24), .move (.t 1), (some (23, true))⟩, ⟨(some 25), .bin .eql (.t 24) (.c (.val (.string ⟨#[1, 4, 120]⟩))), (some (23, true))⟩, ⟨(some 26), .pick (.t 23) (.t 25) (.c (.val (.bool false))), none⟩, ⟨(some 27), .move (.t 26), none⟩, ⟨(some 28), .load true 2 (.t 3), (some (27, true))⟩, ⟨(some 29), .build [(.val (.int .i64 0)), (.val (.int .i64 0))] [(0, 1, (.c (.val (.int .i64 1)))), (1, 1, (.c (.val (.int .i64 4))))], (some (27, true))⟩, ⟨(some 30), .eqs [.i, .i] false (.t 28) (.t 29), (some (27, true))⟩, ⟨(some 31), .pick (.t 27) (.t 30) (.c (.val (.bool false))), none⟩, ⟨(some 32), .move (.t 31), none⟩, ⟨(some 33), .move (.t 4), (some (32, true))⟩, ⟨(some 34), .bin .eql (.t 33) (.c (.val (.string ⟨#[120]⟩))), (some (32, true))⟩, ⟨(some 35), .pick (.t 32) (.t 34) (.c (.val (.bool false))), none⟩, ⟨(some 0), .move (.t 35), none⟩])
  (.ret))))⟩
theorem cf13_ok : cFunc Try.prog Try.f13 = some cf13 := by kernel_rfl

/-- bitcast/member.Report -/
def cf14 : AF :=
  ⟨83, 5, [.cell 10 true 2, .tmp 11],
  .seq (.reg [⟨(some 5), .box (.t 0), none⟩, ⟨(some 6), .box (.t 1), none⟩, ⟨(some 7), .box (.t 2), none⟩, ⟨(some 8), .box (.t 3), none⟩, ⟨(some 10), .box (.c (.agg [(.val (.int .i64 0)), (.sl 0 [] true)])), none⟩, ⟨(some 11), .move (.c (.val (.int .i64 0))), none⟩])
  (.seq (.seq (.reg [⟨(some 17), .load true 2 (.t 5), none⟩, ⟨(some 18), .call (.c (.func 25 [])) [(.t 17)], none⟩, ⟨(some 12), .move (.t 18), none⟩])
  (.seq (.reg [⟨(some 19), .move (.t 12), none⟩, ⟨(some 20), .bin .neq (.t 19) (.c (.val (.int .i64 0))), none⟩])
  (.cond (.t 20) (.seq (.reg [⟨(some 21), .build [(.val (.int .i64 0)), (.sl 0 [] true)] [], none⟩, ⟨(some 22), .move (.t 12), none⟩, ⟨none, .store 2 (.t 10) (.t 21), none⟩, ⟨(some 11), .move (.t 22), none⟩])
  (.ret)) (.skip))))
  (.seq (.seq (.reg [⟨(some 23), .load false 1 (.t 6), none⟩, ⟨(some 24), .call (.c (.func 42 [])) [(.t 23), (.c (.val (.int .i64 1))), (.c (.val (.int .i64 99)))], none⟩, ⟨(some 25), .un .not (.t 24), none⟩, ⟨(some 26), .move (.t 25), none⟩, ⟨(some 27), .load false 1 (.t 7), (some (26, false))⟩, ⟨(some 28), .call (.c (.func 42 [])) [(.t 27), (.c (.val (.int .i64 1))), (.c (.val (.int .i64 99)))], (some (26, false))⟩, ⟨(some 29), .un .not (.t 28), (some (26, false))⟩, ⟨(some 30), .pick (.t 26) (.c (.val (.bool true))) (.t 29), none⟩, ⟨(some 31), .move (.t 30), none⟩, ⟨(some 32), .move (.t 4), (some (31, false))⟩, ⟨(some 33), .call (.c (.func 42 [])) [(.t 32), (.c (.val (.int .i64 1))), (.c (.val (.int .i64 1000)))], (some (31, false))⟩, ⟨(some 34), .un .not (.t 33), (some (31, false))⟩, ⟨(some 35), .pick (.t 31) (.c (.val (.bool true))) (.t 34), none⟩])
  (.cond (.t 35) (.seq (.reg [⟨(some 36), .build [(.val (.int .i64 0)), (.sl 0 [] true)] [], none⟩, ⟨none, .store 2 (.t 10) (.t 36), none⟩, ⟨(some 11), .move (.c (.val (.int .i64 2))), none⟩])
  (.ret)) (.skip)))
  (.seq (.seq (.reg [⟨(some 37), .load true 2 (.t 8), none⟩, ⟨(some 38), .call (.c (.func 43 [])) [(.t 37)], none⟩, ⟨(some 13), .move (.t 38), none⟩])
  (.seq (.reg [⟨(some 39), .move (.t 13), none⟩, ⟨(some 40), .bin .neq (.t 39) (.c (.val (.int .i64 0))), none⟩])
  (.cond (.t 40) (.seq (.reg [⟨(some 41), .build [(.val (.int .i64 0)), (.sl 0 [] true)] [], none⟩, ⟨(some 42), .move (.t 13), none⟩, ⟨none, .store 2 (.t 10) (.t 41), none⟩, ⟨(some 11), .move (.t 42), none⟩])
  (.ret)) (.skip))))
  (.seq (.dreg [⟨(some 43), .faddr 0 (.t 5), none⟩, ⟨(some 44), .load false 1 (.t 43), none⟩, ⟨(some 45), .faddr 1 (.t 5), none⟩, ⟨(some 46), .load false 1 (.t 45), none⟩, ⟨(some 47), .mkf 45 [(.t 6), (.t 7)], none⟩, ⟨(some 48), .call (.c (.func 44 [])) [(.t 46), (.t 47)], none⟩, ⟨(some 49), .build [(.val (.int .i64 0)), (.sl 0 [] true)] [(0, 1, (.t 44)), (1, 1, (.t 48))], none⟩, ⟨(some 14), .box (.c (.agg [(.val (.int .i64 0)), (.sl 0 [] true)])), none⟩, ⟨none, .store 2 (.t 14) (.t 49), none⟩] [(1, 3), (1, 5), (1, 7), (3, 7), (5, 7)])
  (.seq (.seq (.reg [⟨(some 50), .load true 2 (.t 8), none⟩, ⟨(some 51), .call (.c (.func 46 [])) [(.t 50)], none⟩])
  (.cond (.t 51) (.seq (.reg [⟨(some 52), .load true 2 (.t 14), none⟩, ⟨none, .store 2 (.t 10) (.t 52), none⟩, ⟨(some 11), .move (.c (.val (.int .i64 0))), none⟩])
  (.ret)) (.skip)))
  (.seq (.seq (.reg [⟨(some 53), .faddr 1 (.t 14), none⟩, ⟨(some 54), .load false 1 (.t 53), none⟩, ⟨(some 55), .len (.t 54), none⟩, ⟨(some 56), .bin .eql (.t 55) (.c (.val (.int .i64 64))), none⟩])
  (.cond (.t 56) (.seq (.reg [⟨(some 57), .build [(.val (.int .i64 0)), (.sl 0 [] true)] [], none⟩, ⟨none, .store 2 (.t 10) (.t 57), none⟩, ⟨(some 11), .move (.c (.val (.int .i64 3))), none⟩])
  (.ret)) (.skip)))
  (.seq (.reg [⟨(some 59), .faddr 1 (.t 14), none⟩, ⟨(some 60), .load false 1 (.t 59), none⟩, ⟨(some 61), .load false 1 (.t 7), none⟩, ⟨(some 62), .load false 1 (.t 6), none⟩, ⟨(some 63), .build [(.val (.int .i64 0)), (.val (.int .i64 0))] [(0, 1, (.t 61)), (1, 1, (.t 62))], none⟩, ⟨(some 64), .call (.c (.func 47 [])) [(.t 60), (.t 63), (.c (.func 48 []))], none⟩, ⟨(some 58), .move (.t 64), none⟩, ⟨(some 65), .ext 0 (.t 58), none⟩, ⟨(some 66), .ext 1 (.t 58), none⟩, ⟨(some 15), .move (.t 65), none⟩, ⟨(some 16), .move (.t 66), none⟩])
  (.seq (.dreg [⟨(some 67), .faddr 1 (.t 14), none⟩, ⟨(some 68), .load false 1 (.t 67), none⟩, ⟨(some 69), .move (.t 15), none⟩, ⟨(some 70), .load false 1 (.t 6), none⟩, ⟨(some 71), .load false 1 (.t 7), none⟩, ⟨(some 72), .load true 2 (.t 8), none⟩, ⟨(some 73), .faddr 0 (.t 5), none⟩, ⟨(some 74), .load false 1 (.t 73), none⟩, ⟨(some 75), .move (.t 4), none⟩, ⟨(some 76), .bin .add (.t 74) (.t 75), none⟩, ⟨(some 77), .build [(.val (.int .i64 0)), (.val (.int .i64 0)), (.val (.int .i64 0)), (.sl 0 [] true), (.val (.int .i64 0))] [(0, 1, (.t 70)), (1, 1, (.t 71)), (2, 2, (.t 72)), (4, 1, (.t 76))], none⟩, ⟨(some 78), .call (.c (.func 50 [])) [(.t 77)], none⟩, ⟨(some 79), .lit 5 1 (.agg [(.val (.int .i64 0)), (.val (.int .i64 0)), (.val (.int .i64 0)), (.sl 0 [] true), (.val (.int .i64 0))]) [(0, (.t 78))], none⟩, ⟨(some 80), .call (.c (.func 49 [])) [(.t 68), (.t 69), (.t 79)], none⟩, ⟨(some 81), .faddr 1 (.t 14), none⟩, ⟨none, .store 1 (.t 81) (.t 80), none⟩] [(1, 3), (1, 4), (3, 4), (1, 5), (3, 5), (4, 5), (1, 7), (3, 7), (4, 7), (5, 7), (1, 11), (1, 12)])
  (.seq (.reg [⟨(some 82), .load true 2 (.t 14), none⟩, ⟨none, .store 2 (.t 10) (.t 82), none⟩, ⟨(some 11), .move (.c (.val (.int .i64 0))), none⟩])
  (.ret))))))))))⟩
theorem cf14_ok : cFunc Try.prog Try.f14 = some cf14 := by kernel_rfl

/-- bitcast/bitcastlaw23.all -/
def cf15 : AF :=
  ⟨2, 0, [.cell 0 true 2],
  .seq (.reg [⟨(some 0), .box (.c (.agg [(.val (.int .i64 0)), (.sl 0 [] true)])), none⟩])
  (.seq (.reg [⟨(some 1), .build [(.val (.int .i64 0)), (.sl 0 [] true)] [(0, 1, (.c (.val (.int .i64 2))))], none⟩, ⟨none, .store 2 (.t 0) (.t 1), none⟩])
  (.ret))⟩
theorem cf15_ok : cFunc Try.prog Try.f15 = some cf15 := by kernel_rfl

/-- bitcast/bitcastflow.Mod -/
def cf16 : AF :=
  ⟨16, 2, [.tmp 4],
  .seq (.reg [⟨(some 4), .move (.c (.val (.int .i64 0))), none⟩])
  (.seq (.seq (.reg [⟨(some 5), .move (.t 1), none⟩, ⟨(some 6), .bin .lss (.t 5) (.c (.val (.int .i64 1))), none⟩])
  (.cond (.t 6) (.seq (.reg [⟨(some 4), .move (.c (.val (.int .i64 0))), none⟩])
  (.ret)) (.skip)))
  (.seq (.reg [⟨(some 7), .move (.t 0), none⟩, ⟨(some 8), .move (.t 1), none⟩, ⟨(some 9), .bin .rem (.t 7) (.t 8), none⟩, ⟨(some 0), .move (.t 9), none⟩])
  (.seq (.seq (.reg [⟨(some 10), .move (.t 0), none⟩, ⟨(some 11), .bin .lss (.t 10) (.c (.val (.int .i64 0))), none⟩])
  (.cond (.t 11) (.reg [⟨(some 12), .move (.t 0), none⟩, ⟨(some 13), .move (.t 1), none⟩, ⟨(some 14), .bin .add (.t 12) (.t 13), none⟩, ⟨(some 0), .move (.t 14), none⟩]) (.skip)))
  (.seq (.reg [⟨(some 15), .move (.t 0), none⟩, ⟨(some 4), .move (.t 15), none⟩])
  (.ret)))))⟩
theorem cf16_ok : cFunc Try.prog Try.f16 = some cf16 := by kernel_rfl

/-- bitcast/bitcastref22.Nothing -/
def cf17 : AF :=
  ⟨2, 0, [.cell 0 true 2],
  .seq (.reg [⟨(some 0), .box (.c (.agg [(.val (.int .i64 0)), (.sl 0 [] true)])), none⟩])
  (.seq (.reg [⟨(some 1), .build [(.val (.int .i64 0)), (.sl 0 [] true)] [(0, 1, (.c (.val (.int .i64 1))))], none⟩, ⟨none, .store 2 (.t 0) (.t 1), none⟩])
  (.ret))⟩
theorem cf17_ok : cFunc Try.prog Try.f17 = some cf17 := by kernel_rfl

/-- bitcast/member.Find -/
def cf18 : AF :=
  ⟨32, 3, [.cell 6 true 5, .tmp 7],
  .seq (.reg [⟨(some 3), .box (.t 0), none⟩, ⟨(some 6), .box (.c (.agg [(.val (.int .i64 0)), (.val (.int .i64 0)), (.val (.int .i64 0)), (.sl 0 [] true), (.val (.int .i64 0))])), none⟩, ⟨(some 7), .move (.c (.val (.bool false))), none⟩])
  (.seq (.seq (.reg [⟨(some 10), .load true 2 (.t 3), none⟩, ⟨(some 11), .call (.c (.func 25 [])) [(.t 10)], none⟩, ⟨(some 12), .bin .neq (.t 11) (.c (.val (.int .i64 0))), none⟩])
  (.cond (.t 12) (.seq (.reg [⟨(some 13), .build [(.val (.int .i64 0)), (.val (.int .i64 0)), (.val (.int .i64 0)), (.sl 0 [] true), (.val (.int .i64 0))] [], none⟩, ⟨none, .store 5 (.t 6) (.t 13), none⟩, ⟨(some 7), .move (.c (.val (.bool false))), none⟩])
  (.ret)) (.skip)))
  (.seq (.reg [⟨(some 15), .faddr 1 (.t 3), none⟩, ⟨(some 16), .load false 1 (.t 15), none⟩, ⟨(some 17), .move (.t 2), none⟩, ⟨(some 18), .move (.t 1), none⟩, ⟨(some 19), .build [(.val (.int .i64 0)), (.val (.int .i64 0))] [(0, 1, (.t 17)), (1, 1, (.t 18))], none⟩, ⟨(some 20), .call (.c (.func 47 [])) [(.t 16), (.t 19), (.c (.func 48 []))], none⟩, ⟨(some 14), .move (.t 20), none⟩, ⟨(some 21), .ext 0 (.t 14), none⟩, ⟨(some 22), .ext 1 (.t 14), none⟩, ⟨(some 8), .move (.t 21), none⟩, ⟨(some 9), .move (.t 22), none⟩])
  (.seq (.seq (.reg [⟨(some 23), .move (.t 9), none⟩, ⟨(some 24), .un .not (.t 23), none⟩])
  (.cond (.t 24) (.seq (.reg [⟨(some 25), .build [(.val (.int .i64 0)), (.val (.int .i64 0)), (.val (.int .i64 0)), (.sl 0 [] true), (.val (.int .i64 0))] [], none⟩, ⟨none, .store 5 (.t 6) (.t 25), none⟩, ⟨(some 7), .move (.c (.val (.bool false))), none⟩])
  (.ret)) (.skip)))
  (.seq (.reg [⟨(some 26), .faddr 1 (.t 3), none⟩, ⟨(some 27), .load false 1 (.t 26), none⟩, ⟨(some 28), .move (.t 8), none⟩, ⟨(some 29), .iaddr 5 (.t 27) (.t 28), none⟩, ⟨(some 30), .load true 5 (.t 29), none⟩, ⟨(some 31), .call (.c (.func 50 [])) [(.t 30)], none⟩, ⟨none, .store 5 (.t 6) (.t 31), none⟩, ⟨(some 7), .move (.c (.val (.bool true))), none⟩])
  (.ret)))))⟩
theorem cf18_ok : cFunc Try.prog Try.f18 = some cf18 := by kernel_rfl

/-- bitcast/bitcastref23.Same -/
def cf19 : AF :=
  ⟨39, 2, [.tmp 4],
  .seq (.reg [⟨(some 2), .box (.t 0), none⟩, ⟨(some 3), .box (.t 1), none⟩, ⟨(some 4), .move (.c (.val (.bool false))), none⟩])
  (.seq (.seq (.reg [⟨(some 6), .faddr 0 (.t 2), none⟩, ⟨(some 7), .load false 1 (.t 6), none⟩, ⟨(some 8), .faddr 0 (.t 3), none⟩, ⟨(some 9), .load false 1 (.t 8), none⟩, ⟨(some 10), .bin .neq (.t 7) (.t 9), none⟩, ⟨(some 11), .move (.t 10), none⟩, ⟨(some 12), .faddr 1 (.t 2), (some (11, false))⟩, ⟨(some 13), .load false 1 (.t 12), (some (11, false))⟩, ⟨(some 14), .len (.t 13), (some (11, false))⟩, ⟨(some 15), .faddr 1 (.t 3), (some (11, false))⟩, ⟨(some 16), .load false 1 (.t 15), (some (11, false))⟩, ⟨(some 17), .len (.t 16), (some (11, false))⟩, ⟨(some 18), .bin .neq (.t 14) (.t 17), (some (11, false))⟩, ⟨(some 19), .pick (.t 11) (.c (.val (.bool true))) (.t 18), none⟩])
  (.cond (.t 19) (.seq (.reg [⟨(some 4), .move (.c (.val (.bool false))), none⟩])
  (.ret)) (.skip)))
  (.seq (.seq (.reg [⟨(some 5), .move (.c (.val (.int .i64 0))), none⟩])
  (.block 0 (.loop (.seq (.seq (.reg [⟨(some 20), .move (.t 5), none⟩, ⟨(some 21), .faddr 1 (.t 2), none⟩, ⟨(some 22), .load false 1 (.t 21), none⟩, ⟨(some 23), .len (.t 22), none⟩, ⟨(some 24), .bin .lss (.t 20) (.t 23), none⟩])
  (.cond (.t 24) (.skip) (.exit 0)))
  (.seq (.block 1 (.seq (.dreg [⟨(some 27), .faddr 1 (.t 2), none⟩, ⟨(some 28), .load false 1 (.t 27), none⟩, ⟨(some 29), .move (.t 5), none⟩, ⟨(some 30), .iaddr 5 (.t 28) (.t 29), none⟩, ⟨(some 31), .load true 5 (.t 30), none⟩, ⟨(some 32), .faddr 1 (.t 3), none⟩, ⟨(some 33), .load false 1 (.t 32), none⟩, ⟨(some 34), .move (.t 5), none⟩, ⟨(some 35), .iaddr 5 (.t 33) (.t 34), none⟩, ⟨(some 36), .load true 5 (.t 35), none⟩, ⟨(some 37), .call (.c (.func 28 [])) [(.t 31), (.t 36)], none⟩, ⟨(some 38), .un .not (.t 37), none⟩] [(1, 6), (3, 6), (4, 6), (1, 8), (3, 8), (4, 8), (1, 9), (3, 9), (4, 9)])
  (.cond (.t 38) (.seq (.reg [⟨(some 4), .move (.c (.val (.bool false))), none⟩])
  (.ret)) (.skip))))
  (.reg [⟨(some 25), .move (.t 5), none⟩, ⟨(some 26), .bin .add (.t 25) (.c (.val (.int .i64 1))), none⟩, ⟨(some 5), .move (.t 26), none⟩]))))))
  (.seq (.reg [⟨(some 4), .move (.c (.val (.bool true))), none⟩])
  (.ret))))⟩
theorem cf19_ok : cFunc Try.prog Try.f19 = some cf19 := by kernel_rfl

/-- bitcast/bitcastlaw23.awake -/
def cf20 : AF :=
  ⟨81, 0, [.tmp 0],
  .seq (.reg [⟨(some 0), .move (.c (.val (.bool false))), none⟩])
  (.seq (.reg [⟨(some 13), .build [(.val (.int .i64 0)), (.sl 0 [] true)] [(0, 1, (.c (.val (.int .i64 5))))], none⟩, ⟨(some 14), .call (.c (.func 15 [])) [], none⟩, ⟨(some 15), .call (.c (.func 14 [])) [(.t 13), (.c (.val (.int .i64 3))), (.c (.val (.int .i64 4))), (.t 14), (.c (.val (.int .i64 10)))], none⟩, ⟨(some 12), .move (.t 15), none⟩, ⟨(some 16), .ext 0 (.t 12), none⟩, ⟨(some 17), .ext 1 (.t 12), none⟩, ⟨(some 1), .box (.c (.agg [(.val (.int .i64 0)), (.sl 0 [] true)])), none⟩, ⟨none, .store 2 (.t 1) (.t 16), none⟩, ⟨(some 2), .move (.t 17), none⟩])
  (.seq (.reg [⟨(some 19), .load true 2 (.t 1), none⟩, ⟨(some 20), .call (.c (.func 23 [])) [(.t 19), (.c (.val (.int .i64 15)))], none⟩, ⟨(some 18), .move (.t 20), none⟩, ⟨(some 21), .ext 0 (.t 18), none⟩, ⟨(some 22), .ext 1 (.t 18), none⟩, ⟨(some 3), .box (.c (.agg [(.val (.int .i64 0)), (.sl 0 [] true)])), none⟩, ⟨none, .store 2 (.t 3) (.t 21), none⟩, ⟨(some 4), .move (.t 22), none⟩])
  (.seq (.reg [⟨(some 24), .load true 2 (.t 1), none⟩, ⟨(some 25), .call (.c (.func 23 [])) [(.t 24), (.c (.val (.int .i64 16)))], none⟩, ⟨(some 23), .move (.t 25), none⟩, ⟨(some 26), .ext 0 (.t 23), none⟩, ⟨(some 27), .ext 1 (.t 23), none⟩, ⟨(some 5), .box (.c (.agg [(.val (.int .i64 0)), (.sl 0 [] true)])), none⟩, ⟨none, .store 2 (.t 5) (.t 26), none⟩, ⟨(some 6), .move (.t 27), none⟩])
  (.seq (.reg [⟨(some 29), .load true 2 (.t 1), none⟩, ⟨(some 30), .call (.c (.func 23 [])) [(.t 29), (.c (.val (.int .i64 6)))], none⟩, ⟨(some 28), .move (.t 30), none⟩, ⟨(some 31), .ext 0 (.t 28), none⟩, ⟨(some 32), .ext 1 (.t 28), none⟩, ⟨(some 7), .box (.c (.agg [(.val (.int .i64 0)), (.sl 0 [] true)])), none⟩, ⟨none, .store 2 (.t 7) (.t 31), none⟩, ⟨(some 8), .move (.t 32), none⟩])
  (.seq (.reg [⟨(some 34), .load true 2 (.t 7), none⟩, ⟨(some 35), .call (.c (.func 26 [])) [(.t 34), (.c (.val (.int .i64 3))), (.c (.val (.int .i64 4))), (.c (.val (.int .i64 2)))], none⟩, ⟨(some 33), .move (.t 35), none⟩, ⟨(some 36), .ext 0 (.t 33), none⟩, ⟨(some 37), .ext 1 (.t 33), none⟩, ⟨none, .store 2 (.t 7) (.t 36), none⟩, ⟨(some 9), .move (.t 37), none⟩])
  (.seq (.reg [⟨(some 39), .load true 2 (.t 7), none⟩, ⟨(some 40), .call (.c (.func 18 [])) [(.t 39), (.c (.val (.int .i64 3))), (.c (.val (.int .i64 4)))], none⟩, ⟨(some 38), .move (.t 40), none⟩, ⟨(some 41), .ext 0 (.t 38), none⟩, ⟨(some 42), .ext 1 (.t 38), none⟩, ⟨(some 10), .box (.c (.agg [(.val (.int .i64 0)), (.val (.int .i64 0)), (.val (.int .i64 0)), (.sl 0 [] true), (.val (.int .i64 0))])), none⟩, ⟨none, .store 5 (.t 10) (.t 41), none⟩, ⟨(some 11), .move (.t 42), none⟩])
  (.seq (.reg [⟨(some 43), .move (.t 2), none⟩, ⟨(some 44), .bin .eql (.t 43) (.c (.val (.int .i64 0))), none⟩, ⟨(some 45), .move (.t 44), none⟩, ⟨(some 46), .move (.t 4), (some (45, true))⟩, ⟨(some 47), .bin .eql (.t 46) (.c (.val (.int .i64 0))), (some (45, true))⟩, ⟨(some 48), .pick (.t 45) (.t 47) (.c (.val (.bool false))), none⟩, ⟨(some 49), .move (.t 48), none⟩, ⟨(some 50), .move (.t 6), (some (49, true))⟩, ⟨(some 51), .bin .eql (.t 50) (.c (.val (.int .i64 0))), (some (49, true))⟩, ⟨(some 52), .pick (.t 49) (.t 51) (.c (.val (.bool false))), none⟩, ⟨(some 53), .move (.t 52), none⟩, ⟨(some 54), .move (.t 8), (some (53, true))⟩, ⟨(some 55), .bin .eql (.t 54) (.c (.val (.int .i64 0))), (some (53, true))⟩, ⟨(some 56), .pick (.t 53) (.t 55) (.c (.val (.bool false))), none⟩, ⟨(some 57), .move (.t 56), none⟩, ⟨(some 58), .move (.t 9), (some (57, true))⟩, ⟨(some 59), .bin .eql (.t 58) (.c (.val (.int .i64 0))), (some (57, true))⟩, ⟨(some 60), .pick (.t 57) (.t 59) (.c (.val (.bool false))), none⟩, ⟨(some 61), .move (.t 60), none⟩, ⟨(some 62), .faddr 1 (.t 3), (some (61, true))⟩, ⟨(some 63), .load false 1 (.t 62), (some (61, true))⟩, ⟨(some 64), .len (.t 63), (some (61, true))⟩, ⟨(some 65), .bin .eql (.t 64) (.c (.val (.int .i64 1))), (some (61, true))⟩, ⟨(some 66), .pick (.t 61) (.t 65) (.c (.val (.bool false))), none⟩, ⟨(some 67), .move (.t 66), none⟩, ⟨(some 68), .faddr 1 (.t 5), (some (67, true))⟩, ⟨(some 69), .load false 1 (.t 68), (some (67, true))⟩, ⟨(some 70), .len (.t 69), (some (67, true))⟩, ⟨(some 71), .bin .eql (.t 70) (.c (.val (.int .i64 0))), (some (67, true))⟩, ⟨(some 72), .pick (.t 67) (.t 71) (.c (.val (.bool false))), none⟩, ⟨(some 73), .move (.t 72), none⟩, ⟨(some 74), .move (.t 11), (some (73, true))⟩, ⟨(some 75), .pick (.t 73) (.t 74) (.c (.val (.bool false))), none⟩, ⟨(some 76), .move (.t 75), none⟩, ⟨(some 77), .faddr 4 (.t 10), (some (76, true))⟩, ⟨(some 78), .load false 1 (.t 77), (some (76, true))⟩, ⟨(some 79), .bin .eql (.t 78) (.c (.val (.int .i64 8))), (some (76, true))⟩, ⟨(some 80), .pick (.t 76) (.t 79) (.c (.val (.bool false))), none⟩, ⟨(some 0), .move (.t 80), none⟩])
  (.ret))))))))⟩
theorem cf20_ok : cFunc Try.prog Try.f20 = some cf20 := by kernel_rfl

/-- (*bitcast/bitcastflow.Tape).Members -/
def cf21 : AF :=
  ⟨136, 2, [.cell 4 true 2],
  .seq (.reg [⟨(some 4), .box (.c (.agg [(.val (.int .i64 0)), (.sl 0 [] true)])), none⟩])
  (.seq (.reg [⟨(some 10), .move (.t 0), none⟩, ⟨(some 11), .lit 1 4 (.val (.int .i64 0)) [(0, (.c (.val (.int .i64 0)))), (1, (.c (.val (.int .i64 10)))), (2, (.c (.val (.int .i64 500)))), (3, (.c (.val (.int .i64 998000))))], none⟩, ⟨(some 12), .call (.c (.func 36 [])) [(.t 10), (.t 11)], none⟩, ⟨(some 13), .build [(.val (.int .i64 0)), (.sl 0 [] true)] [(0, 1, (.t 12))], none⟩, ⟨(some 5), .box (.c (.agg [(.val (.int .i64 0)), (.sl 0 [] true)])), none⟩, ⟨none, .store 2 (.t 5) (.t 13), none⟩])
  (.seq (.seq (.reg [⟨(some 14), .move (.t 0), none⟩, ⟨(some 15), .move (.t 1), none⟩, ⟨(some 16), .bin .add (.t 15) (.c (.val (.int .i64 1))), none⟩, ⟨(some 17), .call (.c (.func 24 [])) [(.t 14), (.t 16)], none⟩, ⟨(some 6), .move (.t 17), none⟩])
  (.block 0 (.loop (.seq (.seq (.reg [⟨(some 18), .move (.t 6), none⟩, ⟨(some 19), .bin .gtr (.t 18) (.c (.val (.int .i64 0))), none⟩])
  (.cond (.t 19) (.skip) (.exit 0)))
  (.seq (.block 1 (.seq (.dreg [⟨(some 22), .move (.t 0), none⟩, ⟨(some 23), .call (.c (.func 10 [])) [(.t 22), (.c (.val (.int .i64 1))), (.c (.val (.int .i64 8)))], none⟩, ⟨(some 24), .move (.t 0), none⟩, ⟨(some 25), .call (.c (.func 10 [])) [(.t 24), (.c (.val (.int .i64 1))), (.c (.val (.int .i64 4)))], none⟩, ⟨(some 26), .move (.t 0), none⟩, ⟨(some 27), .call (.c (.func 22 [])) [(.t 26)], none⟩, ⟨(some 28), .faddr 0 (.t 5), none⟩, ⟨(some 29), .load false 1 (.t 28), none⟩, ⟨(some 30), .move (.t 0), none⟩, ⟨(some 31), .lit 1 4 (.val (.int .i64 0)) [(0, (.c (.val (.int .i64 0)))), (1, (.c (.val (.int .i64 1)))), (2, (.c (.val (.int .i64 30)))), (3, (.c (.val (.int .i64 1000))))], none⟩, ⟨(some 32), .call (.c (.func 36 [])) [(.t 30), (.t 31)], none⟩, ⟨(some 33), .bin .add (.t 29) (.t 32), none⟩, ⟨(some 34), .build [(.val (.int .i64 0)), (.val (.int .i64 0)), (.val (.int .i64 0)), (.sl 0 [] true), (.val (.int .i64 0))] [(0, 1, (.t 23)), (1, 1, (.t 25)), (2, 2, (.t 27)), (4, 1, (.t 33))], none⟩, ⟨(some 7), .box (.c (.agg [(.val (.int .i64 0)), (.val (.int .i64 0)), (.val (.int .i64 0)), (.sl 0 [] true), (.val (.int .i64 0))])), none⟩, ⟨none, .store 5 (.t 7) (.t 34), none⟩] [(1, 7), (3, 7), (5, 7), (1, 9), (3, 9), (5, 9), (7, 9), (7, 10), (1, 13), (3, 13), (5, 13), (7, 13), (9, 13), (10, 13)])
  (.seq (.seq (.reg [⟨(some 35), .faddr 2 (.t 7), none⟩, ⟨(some 36), .faddr 0 (.t 35), none⟩, ⟨(some 37), .load false 1 (.t 36), none⟩, ⟨(some 38), .bin .eql (.t 37) (.c (.val (.int .i64 1))), none⟩, ⟨(some 39), .move (.t 38), none⟩, ⟨(some 40), .faddr 2 (.t 7), (some (39, true))⟩, ⟨(some 41), .faddr 1 (.t 40), (some (39, true))⟩, ⟨(some 42), .load false 1 (.t 41), (some (39, true))⟩, ⟨(some 43), .len (.t 42), (some (39, true))⟩, ⟨(some 44), .bin .eql (.t 43) (.c (.val (.int .i64 0))), (some (39, true))⟩, ⟨(some 45), .pick (.t 39) (.t 44) (.c (.val (.bool false))), none⟩])
  (.cond (.t 45) (.reg [⟨(some 46), .faddr 2 (.t 7), none⟩, ⟨(some 47), .faddr 0 (.t 46), none⟩, ⟨none, .store 1 (.t 47) (.c (.val (.int .i64 2))), none⟩]) (.skip)))
  (.seq (.reg [⟨(some 8), .move (.c (.val (.int .i64 0))), none⟩])
  (.seq (.block 2 (.loop (.seq (.seq (.dreg [⟨(some 48), .move (.t 8), none⟩, ⟨(some 49), .faddr 1 (.t 5), none⟩, ⟨(some 50), .load false 1 (.t 49), none⟩, ⟨(some 51), .len (.t 50), none⟩, ⟨(some 52), .bin .lss (.t 48) (.t 51), none⟩, ⟨(some 53), .move (.t 52), none⟩, ⟨(some 54), .faddr 1 (.t 5), (some (53, true))⟩, ⟨(some 55), .load false 1 (.t 54), (some (53, true))⟩, ⟨(some 56), .move (.t 8), (some (53, true))⟩, ⟨(some 57), .iaddr 5 (.t 55) (.t 56), (some (53, true))⟩, ⟨(some 58), .faddr 1 (.t 57), (some (53, true))⟩, ⟨(some 59), .load false 1 (.t 58), (some (53, true))⟩, ⟨(some 60), .faddr 1 (.t 7), (some (53, true))⟩, ⟨(some 61), .load false 1 (.t 60), (some (53, true))⟩, ⟨(some 62), .bin .lss (.t 59) (.t 61), (some (53, true))⟩, ⟨(some 63), .move (.t 62), (some (53, true))⟩, ⟨(some 64), .faddr 1 (.t 5), (some (63, false))⟩, ⟨(some 65), .load false 1 (.t 64), (some (63, false))⟩, ⟨(some 66), .move (.t 8), (some (63, false))⟩, ⟨(some 67), .iaddr 5 (.t 65) (.t 66), (some (63, false))⟩, ⟨(some 68), .faddr 1 (.t 67), (some (63, false))⟩, ⟨(some 69), .load false 1 (.t 68), (some (63, false))⟩, ⟨(some 70), .faddr 1 (.t 7), (some (63, false))⟩, ⟨(some 71), .load false 1 (.t 70), (some (63, false))⟩, ⟨(some 72), .bin .eql (.t 69) (.t 71), (some (63, false))⟩, ⟨(some 73), .move (.t 72), (some (63, false))⟩, ⟨(some 74), .faddr 1 (.t 5), (some (73, true))⟩, ⟨(some 75), .load false 1 (.t 74), (some (73, true))⟩, ⟨(some 76), .move (.t 8), (some (73, true))⟩, ⟨(some 77), .iaddr 5 (.t 75) (.t 76), (some (73, true))⟩, ⟨(some 78), .faddr 0 (.t 77), (some (73, true))⟩, ⟨(some 79), .load false 1 (.t 78), (some (73, true))⟩, ⟨(some 80), .faddr 0 (.t 7), (some (73, true))⟩, ⟨(some 81), .load false 1 (.t 80), (some (73, true))⟩, ⟨(some 82), .bin .lss (.t 79) (.t 81), (some (73, true))⟩, ⟨(some 83), .pick (.t 73) (.t 82) (.c (.val (.bool false))), (some (63, false))⟩, ⟨(some 84), .pick (.t 63) (.c (.val (.bool true))) (.t 83), (some (53, true))⟩, ⟨(some 85), .pick (.t 53) (.t 84) (.c (.val (.bool false))), none⟩] [(7, 13), (9, 13), (11, 13), (17, 23), (19, 23), (21, 23), (27, 33), (29, 33), (31, 33)])
  (.cond (.t 85) (.skip) (.exit 2)))
  (.block 3 (.reg [⟨(some 86), .move (.t 8), none⟩, ⟨(some 87), .bin .add (.t 86) (.c (.val (.int .i64 1))), none⟩, ⟨(some 8), .move (.t 87), none⟩])))))
  (.seq (.seq (.dreg [⟨(some 88), .move (.t 8), none⟩, ⟨(some 89), .faddr 1 (.t 5), none⟩, ⟨(some 90), .load false 1 (.t 89), none⟩, ⟨(some 91), .len (.t 90), none⟩, ⟨(some 92), .bin .lss (.t 88) (.t 91), none⟩, ⟨(some 93), .move (.t 92), none⟩, ⟨(some 94), .faddr 1 (.t 5), (some (93, true))⟩, ⟨(some 95), .load false 1 (.t 94), (some (93, true))⟩, ⟨(some 96), .move (.t 8), (some (93, true))⟩, ⟨(some 97), .iaddr 5 (.t 95) (.t 96), (some (93, true))⟩, ⟨(some 98), .faddr 1 (.t 97), (some (93, true))⟩, ⟨(some 99), .load false 1 (.t 98), (some (93, true))⟩, ⟨(some 100), .faddr 1 (.t 7), (some (93, true))⟩, ⟨(some 101), .load false 1 (.t 100), (some (93, true))⟩, ⟨(some 102), .bin .eql (.t 99) (.t 101), (some (93, true))⟩, ⟨(some 103), .pick (.t 93) (.t 102) (.c (.val (.bool false))), none⟩, ⟨(some 104), .move (.t 103), none⟩, ⟨(some 105), .faddr 1 (.t 5), (some (104, true))⟩, ⟨(some 106), .load false 1 (.t 105), (some (104, true))⟩, ⟨(some 107), .move (.t 8), (some (104, true))⟩, ⟨(some 108), .iaddr 5 (.t 106) (.t 107), (some (104, true))⟩, ⟨(some 109), .faddr 0 (.t 108), (some (104, true))⟩, ⟨(some 110), .load false 1 (.t 109), (some (104, true))⟩, ⟨(some 111), .faddr 0 (.t 7), (some (104, true))⟩, ⟨(some 112), .load false 1 (.t 111), (some (104, true))⟩, ⟨(some 113), .bin .eql (.t 110) (.t 112), (some (104, true))⟩, ⟨(some 114), .pick (.t 104) (.t 113) (.c (.val (.bool false))), none⟩] [(7, 13), (9, 13), (11, 13), (18, 24), (20, 24), (22, 24)])
  (.cond (.t 114) (.seq (.reg [⟨(some 115), .faddr 1 (.t 5), none⟩, ⟨(some 116), .load false 1 (.t 115), none⟩, ⟨(some 117), .move (.t 8), none⟩, ⟨(some 118), .load true 5 (.t 7), none⟩, ⟨(some 119), .iaddr 5 (.t 116) (.t 117), none⟩, ⟨none, .store 5 (.t 119) (.t 118), none⟩])
  (.exit 1)) (.skip)))
  (.seq (.dreg [⟨(some 120), .load true 5 (.t 7), none⟩, ⟨(some 121), .lit 5 1 (.agg [(.val (.int .i64 0)), (.val (.int .i64 0)), (.val (.int .i64 0)), (.sl 0 [] true), (.val (.int .i64 0))]) [(0, (.t 120))], none⟩, ⟨(some 122), .faddr 1 (.t 5), none⟩, ⟨(some 123), .load false 1 (.t 122), none⟩, ⟨(some 124), .move (.t 8), none⟩, ⟨(some 125), .slice 5 (.t 123) (some (.t 124)) none none, none⟩, ⟨(some 126), .append 5 56 (.t 121) (.t 125), none⟩, ⟨(some 9), .move (.t 126), none⟩] [(0, 3), (1, 3), (0, 5), (1, 5)])
  (.reg [⟨(some 127), .faddr 1 (.t 5), none⟩, ⟨(some 128), .load false 1 (.t 127), none⟩, ⟨(some 129), .move (.t 8), none⟩, ⟨(some 130), .move (.t 8), none⟩, ⟨(some 131), .slice 5 (.t 128) none (some (.t 129)) (some (.t 130)), none⟩, ⟨(some 132), .move (.t 9), none⟩, ⟨(some 133), .append 5 56 (.t 131) (.t 132), none⟩, ⟨(some 134), .faddr 1 (.t 5), none⟩, ⟨none, .store 1 (.t 134) (.t 133), none⟩]))))))))
  (.reg [⟨(some 20), .move (.t 6), none⟩, ⟨(some 21), .bin .sub (.t 20) (.c (.val (.int .i64 1))), none⟩, ⟨(some 6), .move (.t 21), none⟩]))))))
  (.seq (.reg [⟨(some 135), .load true 2 (.t 5), none⟩, ⟨none, .store 2 (.t 4) (.t 135), none⟩])
  (.ret))))⟩
theorem cf21_ok : cFunc Try.prog Try.f21 = some cf21 := by kernel_rfl

/-- (*bitcast/bitcastflow.Tape).Filter -/
def cf22 : AF :=
  ⟨13, 1, [.cell 2 true 2],
  .seq (.reg [⟨(some 2), .box (.c (.agg [(.val (.int .i64 0)), (.sl 0 [] true)])), none⟩])
  (.seq (.reg [⟨(some 4), .move (.t 0), none⟩, ⟨(some 5), .lit 1 6 (.val (.int .i64 0)) [(0, (.c (.val (.int .i64 0)))), (1, (.c (.val (.int .i64 2)))), (2, (.c (.val (.int .i64 4)))), (3, (.c (.val (.int .i64 4)))), (4, (.c (.val (.int .i64 16)))), (5, (.c (.val (.int .i64 99))))], none⟩, ⟨(some 6), .call (.c (.func 36 [])) [(.t 4), (.t 5)], none⟩, ⟨(some 3), .move (.t 6), none⟩])
  (.seq (.reg [⟨(some 7), .move (.t 0), none⟩, ⟨(some 8), .call (.c (.func 10 [])) [(.t 7), (.c (.val (.int .i64 1))), (.c (.val (.int .i64 2)))], none⟩, ⟨(some 9), .move (.t 0), none⟩, ⟨(some 10), .move (.t 3), none⟩, ⟨(some 11), .call (.c (.func 51 [])) [(.t 9), (.t 10)], none⟩, ⟨(some 12), .build [(.val (.int .i64 0)), (.sl 0 [] true)] [(0, 1, (.t 8)), (1, 1, (.t 11))], none⟩, ⟨none, .store 2 (.t 2) (.t 12), none⟩])
  (.ret)))⟩
theorem cf22_ok : cFunc Try.prog Try.f22 = some cf22 := by kernel_rfl

/-- bitcast/member.Tick -/
def cf23 : AF :=
  ⟨25, 2, [.cell 4 true 2, .tmp 5],
  .seq (.reg [⟨(some 2), .box (.t 0), none⟩, ⟨(some 3), .box (.t 1), none⟩, ⟨(some 4), .box (.c (.agg [(.val (.int .i64 0)), (.sl 0 [] true)])), none⟩, ⟨(some 5), .move (.c (.val (.int .i64 0))), none⟩])
  (.seq (.seq (.reg [⟨(some 7), .load true 2 (.t 2), none⟩, ⟨(some 8), .call (.c (.func 25 [])) [(.t 7)], none⟩, ⟨(some 6), .move (.t 8), none⟩])
  (.seq (.reg [⟨(some 9), .move (.t 6), none⟩, ⟨(some 10), .bin .neq (.t 9) (.c (.val (.int .i64 0))), none⟩])
  (.cond (.t 10) (.seq (.reg [⟨(some 11), .build [(.val (.int .i64 0)), (.sl 0 [] true)] [], none⟩, ⟨(some 12), .move (.t 6), none⟩, ⟨none, .store 2 (.t 4) (.t 11), none⟩, ⟨(some 5), .move (.t 12), none⟩])
  (.ret)) (.skip))))
  (.seq (.seq (.reg [⟨(some 13), .load false 1 (.t 3), none⟩, ⟨(some 14), .faddr 0 (.t 2), none⟩, ⟨(some 15), .load false 1 (.t 14), none⟩, ⟨(some 16), .call (.c (.func 42 [])) [(.t 13), (.t 15), (.c (.val (.int .i64 1000000)))], none⟩, ⟨(some 17), .un .not (.t 16), none⟩])
  (.cond (.t 17) (.seq (.reg [⟨(some 18), .build [(.val (.int .i64 0)), (.sl 0 [] true)] [], none⟩, ⟨none, .store 2 (.t 4) (.t 18), none⟩, ⟨(some 5), .move (.c (.val (.int .i64 2))), none⟩])
  (.ret)) (.skip)))
  (.seq (.dreg [⟨(some 19), .load false 1 (.t 3), none⟩, ⟨(some 20), .faddr 1 (.t 2), none⟩, ⟨(some 21), .load false 1 (.t 20), none⟩, ⟨(some 22), .mkf 52 [(.t 3)], none⟩, ⟨(some 23), .call (.c (.func 44 [])) [(.t 21), (.t 22)], none⟩, ⟨(some 24), .build [(.val (.int .i64 0)), (.sl 0 [] true)] [(0, 1, (.t 19)), (1, 1, (.t 23))], none⟩, ⟨none, .store 2 (.t 4) (.t 24), none⟩, ⟨(some 5), .move (.c (.val (.int .i64 0))), none⟩] [(0, 2), (0, 4)])
  (.ret))))⟩
theorem cf23_ok : cFunc Try.prog Try.f23 = some cf23 := by kernel_rfl

/-- (*bitcast/bitcastflow.Tape).N -/
def cf24 : AF :=
  ⟨9, 2, [.tmp 4],
  .seq (.reg [⟨(some 4), .move (.c (.val (.int .i64 0))), none⟩])
  (.seq (.reg [⟨(some 5), .move (.t 0), none⟩, ⟨(some 6), .call (.c (.func 53 [])) [(.t 5)], none⟩, ⟨(some 7), .move (.t 1), none⟩, ⟨(some 8), .call (.c (.func 16 [])) [(.t 6), (.t 7)], none⟩, ⟨(some 4), .move (.t 8), none⟩])
  (.ret))⟩
theorem cf24_ok : cFunc Try.prog Try.f24 = some cf24 := by kernel_rfl

/-- bitcast/member.Validate -/
def cf25 : AF :=
  ⟨99, 1, [.tmp 2],
  .seq (.reg [⟨(some 1), .box (.t 0), none⟩, ⟨(some 2), .move (.c (.val (.int .i64 0))), none⟩])
  (.seq (.seq (.reg [⟨(some 12), .faddr 0 (.t 1), none⟩, ⟨(some 13), .load false 1 (.t 12), none⟩, ⟨(some 14), .call (.c (.func 42 [])) [(.t 13), (.c (.val (.int .i64 0))), (.c (.val (.int .i64 1000000)))], none⟩, ⟨(some 15), .un .not (.t 14), none⟩])
  (.cond (.t 15) (.seq (.reg [⟨(some 2), .move (.c (.val (.int .i64 2))), none⟩])
  (.ret)) (.skip)))
  (.seq (.seq (.reg [⟨(some 16), .faddr 1 (.t 1), none⟩, ⟨(some 17), .load false 1 (.t 16), none⟩, ⟨(some 18), .len (.t 17), none⟩, ⟨(some 19), .bin .gtr (.t 18) (.c (.val (.int .i64 64))), none⟩])
  (.cond (.t 19) (.seq (.reg [⟨(some 2), .move (.c (.val (.int .i64 3))), none⟩])
  (.ret)) (.skip)))
  (.seq (.seq (.reg [⟨(some 20), .faddr 1 (.t 1), none⟩, ⟨(some 21), .load false 1 (.t 20), none⟩, ⟨(some 22), .len (.t 21), none⟩, ⟨(some 23), .move (.c (.val (.int .i64 0))), none⟩])
  (.block 0 (.loop (.seq (.reg [⟨(some 24), .bin .lss (.t 23) (.t 22), none⟩])
  (.seq (.cond (.t 24) (.skip) (.exit 0))
  (.seq (.block 1 (.seq (.reg [⟨(some 25), .iaddr 5 (.t 21) (.t 23), none⟩, ⟨(some 26), .load true 5 (.t 25), none⟩, ⟨(some 4), .box (.c (.agg [(.val (.int .i64 0)), (.val (.int .i64 0)), (.val (.int .i64 0)), (.sl 0 [] true), (.val (.int .i64 0))])), none⟩, ⟨none, .store 5 (.t 4) (.t 26), none⟩])
  (.seq (.reg [⟨(some 27), .faddr 0 (.t 4), none⟩, ⟨(some 28), .load false 1 (.t 27), none⟩, ⟨(some 29), .call (.c (.func 42 [])) [(.t 28), (.c (.val (.int .i64 1))), (.c (.val (.int .i64 99)))], none⟩, ⟨(some 30), .un .not (.t 29), none⟩, ⟨(some 31), .move (.t 30), none⟩, ⟨(some 32), .faddr 1 (.t 4), (some (31, false))⟩, ⟨(some 33), .load false 1 (.t 32), (some (31, false))⟩, ⟨(some 34), .call (.c (.func 42 [])) [(.t 33), (.c (.val (.int .i64 1))), (.c (.val (.int .i64 99)))], (some (31, false))⟩, ⟨(some 35), .un .not (.t 34), (some (31, false))⟩, ⟨(some 36), .pick (.t 31) (.c (.val (.bool true))) (.t 35), none⟩, ⟨(some 37), .move (.t 36), none⟩, ⟨(some 38), .faddr 4 (.t 4), (some (37, false))⟩, ⟨(some 39), .load false 1 (.t 38), (some (37, false))⟩, ⟨(some 40), .faddr 0 (.t 1), (some (37, false))⟩, ⟨(some 41), .load false 1 (.t 40), (some (37, false))⟩, ⟨(some 42), .faddr 0 (.t 1), (some (37, false))⟩, ⟨(some 43), .load false 1 (.t 42), (some (37, false))⟩, ⟨(some 44), .bin .add (.t 43) (.c (.val (.int .i64 1000))), (some (37, false))⟩, ⟨(some 45), .call (.c (.func 42 [])) [(.t 39), (.t 41), (.t 44)], (some (37, false))⟩, ⟨(some 46), .un .not (.t 45), (some (37, false))⟩, ⟨(some 47), .pick (.t 37) (.c (.val (.bool true))) (.t 46), none⟩])
  (.cond (.t 47) (.seq (.reg [⟨(some 2), .move (.c (.val (.int .i64 2))), none⟩])
  (.ret)) (.skip)))))
  (.reg [⟨(some 48), .bin .add (.t 23) (.c (.val (.int .i64 1))), none⟩, ⟨(some 23), .move (.t 48), none⟩])))))))
  (.seq (.seq (.reg [⟨(some 49), .faddr 1 (.t 1), none⟩, ⟨(some 50), .load false 1 (.t 49), none⟩, ⟨(some 51), .len (.t 50), none⟩, ⟨(some 52), .move (.c (.val (.int .i64 0))), none⟩])
  (.block 2 (.loop (.seq (.reg [⟨(some 53), .bin .lss (.t 52) (.t 51), none⟩])
  (.seq (.cond (.t 53) (.skip) (.exit 2))
  (.seq (.block 3 (.seq (.reg [⟨(some 54), .iaddr 5 (.t 50) (.t 52), none⟩, ⟨(some 55), .load true 5 (.t 54), none⟩, ⟨(some 6), .box (.c (.agg [(.val (.int .i64 0)), (.val (.int .i64 0)), (.val (.int .i64 0)), (.sl 0 [] true), (.val (.int .i64 0))])), none⟩, ⟨none, .store 5 (.t 6) (.t 55), none⟩])
  (.seq (.reg [⟨(some 56), .faddr 2 (.t 6), none⟩, ⟨(some 57), .load true 2 (.t 56), none⟩, ⟨(some 58), .call (.c (.func 43 [])) [(.t 57)], none⟩, ⟨(some 7), .move (.t 58), none⟩])
  (.seq (.reg [⟨(some 59), .move (.t 7), none⟩, ⟨(some 60), .bin .neq (.t 59) (.c (.val (.int .i64 0))), none⟩])
  (.cond (.t 60) (.seq (.reg [⟨(some 61), .move (.t 7), none⟩, ⟨(some 2), .move (.t 61), none⟩])
  (.ret)) (.skip))))))
  (.reg [⟨(some 62), .bin .add (.t 52) (.c (.val (.int .i64 1))), none⟩, ⟨(some 52), .move (.t 62), none⟩])))))))
  (.seq (.seq (.reg [⟨(some 63), .faddr 1 (.t 1), none⟩, ⟨(some 64), .load false 1 (.t 63), none⟩, ⟨(some 65), .len (.t 64), none⟩, ⟨(some 66), .move (.c (.val (.int .i64 0))), none⟩])
  (.block 4 (.loop (.seq (.reg [⟨(some 67), .bin .lss (.t 66) (.t 65), none⟩])
  (.seq (.cond (.t 67) (.skip) (.exit 4))
  (.seq (.block 5 (.seq (.reg [⟨(some 68), .iaddr 5 (.t 64) (.t 66), none⟩, ⟨(some 69), .load true 5 (.t 68), none⟩, ⟨(some 9), .box (.c (.agg [(.val (.int .i64 0)), (.val (.int .i64 0)), (.val (.int .i64 0)), (.sl 0 [] true), (.val (.int .i64 0))])), none⟩, ⟨none, .store 5 (.t 9) (.t 69), none⟩])
  (.seq (.reg [⟨(some 70), .faddr 2 (.t 9), none⟩, ⟨(some 71), .load true 2 (.t 70), none⟩, ⟨(some 72), .call (.c (.func 46 [])) [(.t 71)], none⟩])
  (.cond (.t 72) (.seq (.reg [⟨(some 2), .move (.c (.val (.int .i64 1))), none⟩])
  (.ret)) (.skip)))))
  (.reg [⟨(some 73), .bin .add (.t 66) (.c (.val (.int .i64 1))), none⟩, ⟨(some 66), .move (.t 73), none⟩])))))))
  (.seq (.seq (.reg [⟨(some 10), .move (.c (.val (.int .i64 1))), none⟩])
  (.block 6 (.loop (.seq (.seq (.reg [⟨(some 74), .move (.t 10), none⟩, ⟨(some 75), .faddr 1 (.t 1), none⟩, ⟨(some 76), .load false 1 (.t 75), none⟩, ⟨(some 77), .len (.t 76), none⟩, ⟨(some 78), .bin .lss (.t 74) (.t 77), none⟩])
  (.cond (.t 78) (.skip) (.exit 6)))
  (.seq (.block 7 (.seq (.reg [⟨(some 81), .faddr 1 (.t 1), none⟩, ⟨(some 82), .load false 1 (.t 81), none⟩, ⟨(some 83), .move (.t 10), none⟩, ⟨(some 84), .iaddr 5 (.t 82) (.t 83), none⟩, ⟨(some 85), .load true 5 (.t 84), none⟩, ⟨(some 11), .box (.c (.agg [(.val (.int .i64 0)), (.val (.int .i64 0)), (.val (.int .i64 0)), (.sl 0 [] true), (.val (.int .i64 0))])), none⟩, ⟨none, .store 5 (.t 11) (.t 85), none⟩])
  (.seq (.dreg [⟨(some 86), .faddr 1 (.t 1), none⟩, ⟨(some 87), .load false 1 (.t 86), none⟩, ⟨(some 88), .move (.t 10), none⟩, ⟨(some 89), .bin .sub (.t 88) (.c (.val (.int .i64 1))), none⟩, ⟨(some 90), .iaddr 5 (.t 87) (.t 89), none⟩, ⟨(some 91), .load true 5 (.t 90), none⟩, ⟨(some 92), .faddr 1 (.t 11), none⟩, ⟨(some 93), .load false 1 (.t 92), none⟩, ⟨(some 94), .faddr 0 (.t 11), none⟩, ⟨(some 95), .load false 1 (.t 94), none⟩, ⟨(some 96), .build [(.val (.int .i64 0)), (.val (.int .i64 0))] [(0, 1, (.t 93)), (1, 1, (.t 95))], none⟩, ⟨(some 97), .call (.c (.func 48 [])) [(.t 91), (.t 96)], none⟩, ⟨(some 98), .bin .geq (.t 97) (.c (.val (.int .i64 0))), none⟩] [(1, 7), (4, 7), (5, 7), (1, 9), (4, 9), (5, 9), (7, 9)])
  (.cond (.t 98) (.seq (.reg [⟨(some 2), .move (.c (.val (.int .i64 25))), none⟩])
  (.ret)) (.skip)))))
  (.reg [⟨(some 79), .move (.t 10), none⟩, ⟨(some 80), .bin .add (.t 79) (.c (.val (.int .i64 1))), none⟩, ⟨(some 10), .move (.t 80), none⟩]))))))
  (.seq (.reg [⟨(some 2), .move (.c (.val (.int .i64 0))), none⟩])
  (.ret))))))))⟩
theorem cf25_ok : cFunc Try.prog Try.f25 = some cf25 := by kernel_rfl

/-- bitcast/member.Leave -/
def cf26 : AF :=
  ⟨69, 4, [.cell 8 true 2, .tmp 9],
  .seq (.reg [⟨(some 4), .box (.t 0), none⟩, ⟨(some 8), .box (.c (.agg [(.val (.int .i64 0)), (.sl 0 [] true)])), none⟩, ⟨(some 9), .move (.c (.val (.int .i64 0))), none⟩])
  (.seq (.seq (.reg [⟨(some 14), .load true 2 (.t 4), none⟩, ⟨(some 15), .call (.c (.func 25 [])) [(.t 14)], none⟩, ⟨(some 10), .move (.t 15), none⟩])
  (.seq (.reg [⟨(some 16), .move (.t 10), none⟩, ⟨(some 17), .bin .neq (.t 16) (.c (.val (.int .i64 0))), none⟩])
  (.cond (.t 17) (.seq (.reg [⟨(some 18), .build [(.val (.int .i64 0)), (.sl 0 [] true)] [], none⟩, ⟨(some 19), .move (.t 10), none⟩, ⟨none, .store 2 (.t 8) (.t 18), none⟩, ⟨(some 9), .move (.t 19), none⟩])
  (.ret)) (.skip))))
  (.seq (.seq (.reg [⟨(some 20), .move (.t 3), none⟩, ⟨(some 21), .call (.c (.func 42 [])) [(.t 20), (.c (.val (.int .i64 0))), (.c (.val (.int .i64 1000)))], none⟩, ⟨(some 22), .un .not (.t 21), none⟩])
  (.cond (.t 22) (.seq (.reg [⟨(some 23), .build [(.val (.int .i64 0)), (.sl 0 [] true)] [], none⟩, ⟨none, .store 2 (.t 8) (.t 23), none⟩, ⟨(some 9), .move (.c (.val (.int .i64 2))), none⟩])
  (.ret)) (.skip)))
  (.seq (.reg [⟨(some 25), .faddr 1 (.t 4), none⟩, ⟨(some 26), .load false 1 (.t 25), none⟩, ⟨(some 27), .move (.t 2), none⟩, ⟨(some 28), .move (.t 1), none⟩, ⟨(some 29), .build [(.val (.int .i64 0)), (.val (.int .i64 0))] [(0, 1, (.t 27)), (1, 1, (.t 28))], none⟩, ⟨(some 30), .call (.c (.func 47 [])) [(.t 26), (.t 29), (.c (.func 48 []))], none⟩, ⟨(some 24), .move (.t 30), none⟩, ⟨(some 31), .ext 0 (.t 24), none⟩, ⟨(some 32), .ext 1 (.t 24), none⟩, ⟨(some 11), .move (.t 31), none⟩, ⟨(some 12), .move (.t 32), none⟩])
  (.seq (.seq (.reg [⟨(some 33), .move (.t 12), none⟩, ⟨(some 34), .un .not (.t 33), none⟩])
  (.cond (.t 34) (.seq (.reg [⟨(some 35), .build [(.val (.int .i64 0)), (.sl 0 [] true)] [], none⟩, ⟨none, .store 2 (.t 8) (.t 35), none⟩, ⟨(some 9), .move (.c (.val (.int .i64 4))), none⟩])
  (.ret)) (.skip)))
  (.seq (.dreg [⟨(some 36), .faddr 0 (.t 4), none⟩, ⟨(some 37), .load false 1 (.t 36), none⟩, ⟨(some 38), .faddr 1 (.t 4), none⟩, ⟨(some 39), .load false 1 (.t 38), none⟩, ⟨(some 40), .call (.c (.func 44 [])) [(.t 39), (.c (.func 54 []))], none⟩, ⟨(some 41), .build [(.val (.int .i64 0)), (.sl 0 [] true)] [(0, 1, (.t 37)), (1, 1, (.t 40))], none⟩, ⟨(some 13), .box (.c (.agg [(.val (.int .i64 0)), (.sl 0 [] true)])), none⟩, ⟨none, .store 2 (.t 13) (.t 41), none⟩] [(1, 3), (1, 4), (1, 6), (3, 6), (4, 6)])
  (.seq (.seq (.reg [⟨(some 42), .move (.t 3), none⟩, ⟨(some 43), .bin .eql (.t 42) (.c (.val (.int .i64 0))), none⟩])
  (.cond (.t 43) (.seq (.reg [⟨(some 44), .faddr 1 (.t 13), none⟩, ⟨(some 45), .load false 1 (.t 44), none⟩, ⟨(some 46), .move (.t 11), none⟩, ⟨(some 47), .move (.t 11), none⟩, ⟨(some 48), .bin .add (.t 47) (.c (.val (.int .i64 1))), none⟩, ⟨(some 49), .call (.c (.func 55 [])) [(.t 45), (.t 46), (.t 48)], none⟩, ⟨(some 50), .faddr 1 (.t 13), none⟩, ⟨none, .store 1 (.t 50) (.t 49), none⟩])
  (.seq (.reg [⟨(some 51), .load true 2 (.t 13), none⟩, ⟨none, .store 2 (.t 8) (.t 51), none⟩, ⟨(some 9), .move (.c (.val (.int .i64 0))), none⟩])
  (.ret))) (.skip)))
  (.seq (.dreg [⟨(some 52), .faddr 1 (.t 13), none⟩, ⟨(some 53), .load false 1 (.t 52), none⟩, ⟨(some 54), .move (.t 11), none⟩, ⟨(some 55), .faddr 1 (.t 13), none⟩, ⟨(some 56), .load false 1 (.t 55), none⟩, ⟨(some 57), .move (.t 11), none⟩, ⟨(some 58), .iaddr 5 (.t 56) (.t 57), none⟩, ⟨(some 59), .faddr 4 (.t 58), none⟩, ⟨(some 60), .load false 1 (.t 59), none⟩, ⟨(some 61), .faddr 0 (.t 4), none⟩, ⟨(some 62), .load false 1 (.t 61), none⟩, ⟨(some 63), .move (.t 3), none⟩, ⟨(some 64), .bin .add (.t 62) (.t 63), none⟩, ⟨(some 65), .min [(.t 60), (.t 64)], none⟩, ⟨(some 66), .iaddr 5 (.t 53) (.t 54), none⟩, ⟨(some 67), .faddr 4 (.t 66), none⟩, ⟨none, .store 1 (.t 67) (.t 65), none⟩] [(1, 4), (1, 6), (1, 8), (1, 10), (4, 10), (6, 10), (8, 10)])
  (.seq (.reg [⟨(some 68), .load true 2 (.t 13), none⟩, ⟨none, .store 2 (.t 8) (.t 68), none⟩, ⟨(some 9), .move (.c (.val (.int .i64 0))), none⟩])
  (.ret)))))))))⟩
theorem cf26_ok : cFunc Try.prog Try.f26 = some cf26 := by kernel_rfl

/-- bitcast/bitcastref22.Same -/
def cf27 : AF :=
  ⟨17, 2, [.tmp 4],
  .seq (.reg [⟨(some 2), .box (.t 0), none⟩, ⟨(some 3), .box (.t 1), none⟩, ⟨(some 4), .move (.c (.val (.bool false))), none⟩])
  (.seq (.reg [⟨(some 5), .faddr 0 (.t 2), none⟩, ⟨(some 6), .load false 1 (.t 5), none⟩, ⟨(some 7), .faddr 0 (.t 3), none⟩, ⟨(some 8), .load false 1 (.t 7), none⟩, ⟨(some 9), .bin .eql (.t 6) (.t 8), none⟩, ⟨(some 10), .move (.t 9), none⟩, ⟨(some 11), .faddr 1 (.t 2), (some (10, true))⟩, ⟨(some 12), .load false 1 (.t 11), (some (10, true))⟩, ⟨(some 13), .faddr 1 (.t 3), (some (10, true))⟩, ⟨(some 14), .load false 1 (.t 13), (some (10, true))⟩, ⟨(some 15), .call (.c (.func 33 [])) [(.t 12), (.t 14)], (some (10, true))⟩, ⟨(some 16), .pick (.t 10) (.t 15) (.c (.val (.bool false))), none⟩, ⟨(some 4), .move (.t 16), none⟩])
  (.ret))⟩
theorem cf27_ok : cFunc Try.prog Try.f27 = some cf27 := by kernel_rfl

/-- bitcast/bitcastref23.SameMember -/
def cf28 : AF :=
  ⟨31, 2, [.tmp 4],
  .seq (.reg [⟨(some 2), .box (.t 0), none⟩, ⟨(some 3), .box (.t 1), none⟩, ⟨(some 4), .move (.c (.val (.bool false))), none⟩])
  (.seq (.reg [⟨(some 5), .faddr 0 (.t 2), none⟩, ⟨(some 6), .load false 1 (.t 5), none⟩, ⟨(some 7), .faddr 0 (.t 3), none⟩, ⟨(some 8), .load false 1 (.t 7), none⟩, ⟨(some 9), .bin .eql (.t 6) (.t 8), none⟩, ⟨(some 10), .move (.t 9), none⟩, ⟨(some 11), .faddr 1 (.t 2), (some (10, true))⟩, ⟨(some 12), .load false 1 (.t 11), (some (10, true))⟩, ⟨(some 13), .faddr 1 (.t 3), (some (10, true))⟩, ⟨(some 14), .load false 1 (.t 13), (some (10, true))⟩, ⟨(some 15), .bin .eql (.t 12) (.t 14), (some (10, true))⟩, ⟨(some 16), .pick (.t 10) (.t 15) (.c (.val (.bool false))), none⟩, ⟨(some 17), .move (.t 16), none⟩, ⟨(some 18), .faddr 4 (.t 2), (some (17, true))⟩, ⟨(some 19), .load false 1 (.t 18), (some (17, true))⟩, ⟨(some 20), .faddr 4 (.t 3), (some (17, true))⟩, ⟨(some 21), .load false 1 (.t 20), (some (17, true))⟩, ⟨(some 22), .bin .eql (.t 19) (.t 21), (some (17, true))⟩, ⟨(some 23), .pick (.t 17) (.t 22) (.c (.val (.bool false))), none⟩, ⟨(some 24), .move (.t 23), none⟩, ⟨(some 25), .faddr 2 (.t 2), (some (24, true))⟩, ⟨(some 26), .load true 2 (.t 25), (some (24, true))⟩, ⟨(some 27), .faddr 2 (.t 3), (some (24, true))⟩, ⟨(some 28), .load true 2 (.t 27), (some (24, true))⟩, ⟨(some 29), .call (.c (.func 27 [])) [(.t 26), (.t 28)], (some (24, true))⟩, ⟨(some 30), .pick (.t 24) (.t 29) (.c (.val (.bool false))), none⟩, ⟨(some 4), .move (.t 30), none⟩])
  (.ret))⟩
theorem cf28_ok : cFunc Try.prog Try.f28 = some cf28 := by kernel_rfl

/-- bitcast/bitcastlaw23.small -/
def cf29 : AF :=
  ⟨31, 1, [.tmp 2],
  .seq (.reg [⟨(some 1), .box (.t 0), none⟩, ⟨(some 2), .move (.c (.val (.bool false))), none⟩])
  (.seq (.reg [⟨(some 5), .faddr 1 (.t 1), none⟩, ⟨(some 6), .load false 1 (.t 5), none⟩, ⟨(some 7), .len (.t 6), none⟩, ⟨(some 3), .move (.t 7), none⟩])
  (.seq (.seq (.reg [⟨(some 4), .move (.c (.val (.int .i64 0))), none⟩])
  (.block 0 (.loop (.seq (.seq (.reg [⟨(some 8), .move (.t 4), none⟩, ⟨(some 9), .faddr 1 (.t 1), none⟩, ⟨(some 10), .load false 1 (.t 9), none⟩, ⟨(some 11), .len (.t 10), none⟩, ⟨(some 12), .bin .lss (.t 8) (.t 11), none⟩, ⟨(some 13), .move (.t 12), none⟩, ⟨(some 14), .move (.t 3), (some (13, true))⟩, ⟨(some 15), .bin .lss (.t 14) (.c (.val (.int .i64 900))), (some (13, true))⟩, ⟨(some 16), .pick (.t 13) (.t 15) (.c (.val (.bool false))), none⟩])
  (.cond (.t 16) (.skip) (.exit 0)))
  (.seq (.block 1 (.reg [⟨(some 19), .move (.t 3), none⟩, ⟨(some 20), .faddr 1 (.t 1), none⟩, ⟨(some 21), .load false 1 (.t 20), none⟩, ⟨(some 22), .move (.t 4), none⟩, ⟨(some 23), .iaddr 5 (.t 21) (.t 22), none⟩, ⟨(some 24), .faddr 2 (.t 23), none⟩, ⟨(some 25), .faddr 1 (.t 24), none⟩, ⟨(some 26), .load false 1 (.t 25), none⟩, ⟨(some 27), .len (.t 26), none⟩, ⟨(some 28), .bin .add (.t 19) (.t 27), none⟩, ⟨(some 3), .move (.t 28), none⟩]))
  (.reg [⟨(some 17), .move (.t 4), none⟩, ⟨(some 18), .bin .add (.t 17) (.c (.val (.int .i64 1))), none⟩, ⟨(some 4), .move (.t 18), none⟩]))))))
  (.seq (.reg [⟨(some 29), .move (.t 3), none⟩, ⟨(some 30), .bin .leq (.t 29) (.c (.val (.int .i64 800))), none⟩, ⟨(some 2), .move (.t 30), none⟩])
  (.ret))))⟩
theorem cf29_ok : cFunc Try.prog Try.f29 = some cf29 := by kernel_rfl

/-- bitcast/bitcastlaw23.bent -/
def cf30 : AF :=
  ⟨93, 2, [.cell 4 true 2],
  .seq (.reg [⟨(some 3), .box (.t 1), none⟩, ⟨(some 4), .box (.c (.agg [(.val (.int .i64 0)), (.sl 0 [] true)])), none⟩])
  (.seq (.dreg [⟨(some 7), .faddr 0 (.t 3), none⟩, ⟨(some 8), .load false 1 (.t 7), none⟩, ⟨(some 9), .lit 5 0 (.agg [(.val (.int .i64 0)), (.val (.int .i64 0)), (.val (.int .i64 0)), (.sl 0 [] true), (.val (.int .i64 0))]) [], none⟩, ⟨(some 10), .faddr 1 (.t 3), none⟩, ⟨(some 11), .load false 1 (.t 10), none⟩, ⟨(some 12), .append 5 56 (.t 9) (.t 11), none⟩, ⟨(some 13), .build [(.val (.int .i64 0)), (.sl 0 [] true)] [(0, 1, (.t 8)), (1, 1, (.t 12))], none⟩, ⟨(some 5), .box (.c (.agg [(.val (.int .i64 0)), (.sl 0 [] true)])), none⟩, ⟨none, .store 2 (.t 5) (.t 13), none⟩] [(1, 2), (1, 4), (2, 4), (1, 5), (1, 7), (2, 7), (4, 7), (5, 7)])
  (.seq (.seq (.reg [⟨(some 14), .faddr 1 (.t 5), none⟩, ⟨(some 15), .load false 1 (.t 14), none⟩, ⟨(some 16), .len (.t 15), none⟩, ⟨(some 17), .bin .eql (.t 16) (.c (.val (.int .i64 0))), none⟩])
  (.cond (.t 17) (.seq (.reg [⟨(some 18), .move (.t 0), none⟩, ⟨(some 19), .lit 1 4 (.val (.int .i64 0)) [(0, (.c (.val (.int .i64 (-1))))), (1, (.c (.val (.int .i64 0)))), (2, (.c (.val (.int .i64 1000000)))), (3, (.c (.val (.int .i64 1000001))))], none⟩, ⟨(some 20), .call (.c (.func 36 [])) [(.t 18), (.t 19)], none⟩, ⟨(some 21), .faddr 0 (.t 5), none⟩, ⟨none, .store 1 (.t 21) (.t 20), none⟩])
  (.seq (.reg [⟨(some 22), .load true 2 (.t 5), none⟩, ⟨none, .store 2 (.t 4) (.t 22), none⟩])
  (.ret))) (.skip)))
  (.seq (.dreg [⟨(some 23), .faddr 1 (.t 5), none⟩, ⟨(some 24), .load false 1 (.t 23), none⟩, ⟨(some 25), .move (.t 0), none⟩, ⟨(some 26), .faddr 1 (.t 5), none⟩, ⟨(some 27), .load false 1 (.t 26), none⟩, ⟨(some 28), .len (.t 27), none⟩, ⟨(some 29), .call (.c (.func 24 [])) [(.t 25), (.t 28)], none⟩, ⟨(some 30), .iaddr 5 (.t 24) (.t 29), none⟩, ⟨(some 6), .move (.t 30), none⟩] [(1, 4), (1, 5), (1, 6)])
  (.seq (.seq (.reg [⟨(some 31), .move (.t 0), none⟩, ⟨(some 32), .call (.c (.func 24 [])) [(.t 31), (.c (.val (.int .i64 7)))], none⟩])
  (.block 0 (.seq (.reg [⟨(some 38), .bin .eql (.t 32) (.c (.val (.int .i64 0))), none⟩, ⟨(some 37), .move (.t 38), none⟩])
  (.cond (.t 37) (.reg [⟨(some 39), .move (.t 6), none⟩, ⟨(some 40), .move (.t 0), none⟩, ⟨(some 41), .lit 1 4 (.val (.int .i64 0)) [(0, (.c (.val (.int .i64 0)))), (1, (.c (.val (.int .i64 1)))), (2, (.c (.val (.int .i64 99)))), (3, (.c (.val (.int .i64 100))))], none⟩, ⟨(some 42), .call (.c (.func 36 [])) [(.t 40), (.t 41)], none⟩, ⟨(some 43), .nilc (.t 39), none⟩, ⟨(some 44), .faddr 0 (.t 43), none⟩, ⟨none, .store 1 (.t 44) (.t 42), none⟩]) (.seq (.reg [⟨(some 46), .bin .eql (.t 32) (.c (.val (.int .i64 1))), none⟩, ⟨(some 45), .move (.t 46), none⟩])
  (.cond (.t 45) (.reg [⟨(some 47), .move (.t 6), none⟩, ⟨(some 48), .move (.t 0), none⟩, ⟨(some 49), .lit 1 4 (.val (.int .i64 0)) [(0, (.c (.val (.int .i64 0)))), (1, (.c (.val (.int .i64 1)))), (2, (.c (.val (.int .i64 99)))), (3, (.c (.val (.int .i64 100))))], none⟩, ⟨(some 50), .call (.c (.func 36 [])) [(.t 48), (.t 49)], none⟩, ⟨(some 51), .nilc (.t 47), none⟩, ⟨(some 52), .faddr 1 (.t 51), none⟩, ⟨none, .store 1 (.t 52) (.t 50), none⟩]) (.seq (.reg [⟨(some 54), .bin .eql (.t 32) (.c (.val (.int .i64 2))), none⟩, ⟨(some 53), .move (.t 54), none⟩])
  (.cond (.t 53) (.dreg [⟨(some 55), .move (.t 6), none⟩, ⟨(some 56), .faddr 0 (.t 5), none⟩, ⟨(some 57), .load false 1 (.t 56), none⟩, ⟨(some 58), .move (.t 0), none⟩, ⟨(some 59), .lit 1 4 (.val (.int .i64 0)) [(0, (.c (.val (.int .i64 (-1))))), (1, (.c (.val (.int .i64 0)))), (2, (.c (.val (.int .i64 1000)))), (3, (.c (.val (.int .i64 1001))))], none⟩, ⟨(some 60), .call (.c (.func 36 [])) [(.t 58), (.t 59)], none⟩, ⟨(some 61), .bin .add (.t 57) (.t 60), none⟩, ⟨(some 62), .nilc (.t 55), none⟩, ⟨(some 63), .faddr 4 (.t 62), none⟩, ⟨none, .store 1 (.t 63) (.t 61), none⟩] [(2, 4), (2, 5)]) (.seq (.reg [⟨(some 65), .bin .eql (.t 32) (.c (.val (.int .i64 3))), none⟩, ⟨(some 64), .move (.t 65), none⟩])
  (.cond (.t 64) (.reg [⟨(some 66), .move (.t 6), none⟩, ⟨(some 67), .move (.t 0), none⟩, ⟨(some 68), .move (.t 6), none⟩, ⟨(some 69), .nilc (.t 68), none⟩, ⟨(some 70), .faddr 2 (.t 69), none⟩, ⟨(some 71), .load true 2 (.t 70), none⟩, ⟨(some 72), .call (.c (.func 56 [])) [(.t 67), (.t 71)], none⟩, ⟨(some 73), .nilc (.t 66), none⟩, ⟨(some 74), .faddr 2 (.t 73), none⟩, ⟨none, .store 2 (.t 74) (.t 72), none⟩]) (.seq (.reg [⟨(some 76), .bin .eql (.t 32) (.c (.val (.int .i64 4))), none⟩, ⟨(some 75), .move (.t 76), none⟩])
  (.cond (.t 75) (.reg [⟨(some 77), .move (.t 6), none⟩, ⟨(some 78), .call (.c (.func 17 [])) [], none⟩, ⟨(some 79), .nilc (.t 77), none⟩, ⟨(some 80), .faddr 2 (.t 79), none⟩, ⟨none, .store 2 (.t 80) (.t 78), none⟩]) (.seq (.reg [⟨(some 82), .bin .eql (.t 32) (.c (.val (.int .i64 5))), none⟩, ⟨(some 81), .move (.t 82), none⟩])
  (.cond (.t 81) (.dreg [⟨(some 83), .faddr 1 (.t 5), none⟩, ⟨(some 84), .load false 1 (.t 83), none⟩, ⟨(some 85), .faddr 1 (.t 5), none⟩, ⟨(some 86), .load false 1 (.t 85), none⟩, ⟨(some 87), .iaddr 5 (.t 86) (.c (.val (.int .i64 0))), none⟩, ⟨(some 88), .load true 5 (.t 87), none⟩, ⟨(some 89), .lit 5 1 (.agg [(.val (.int .i64 0)), (.val (.int .i64 0)), (.val (.int .i64 0)), (.sl 0 [] true), (.val (.int .i64 0))]) [(0, (.t 88))], none⟩, ⟨(some 90), .append 5 56 (.t 84) (.t 89), none⟩, ⟨(some 91), .faddr 1 (.t 5), none⟩, ⟨none, .store 1 (.t 91) (.t 90), none⟩] [(1, 3), (1, 4), (1, 5), (1, 6)]) (.reg [⟨(some 33), .faddr 0 (.t 5), none⟩, ⟨(some 34), .load false 1 (.t 33), none⟩, ⟨(some 35), .bin .add (.t 34) (.c (.val (.int .i64 1))), none⟩, ⟨(some 36), .faddr 0 (.t 5), none⟩, ⟨none, .store 1 (.t 36) (.t 35), none⟩])))))))))))))))
  (.seq (.reg [⟨(some 92), .load true 2 (.t 5), none⟩, ⟨none, .store 2 (.t 4) (.t 92), none⟩])
  (.ret))))))⟩
theorem cf30_ok : cFunc Try.prog Try.f30 = some cf30 := by kernel_rfl

/-- bitcast/bitcastref23.Validate -/
def cf31 : AF :=
  ⟨117, 1, [.tmp 2],
  .seq (.reg [⟨(some 1), .box (.t 0), none⟩, ⟨(some 2), .move (.c (.val (.int .i64 0))), none⟩])
  (.seq (.seq (.reg [⟨(some 11), .faddr 0 (.t 1), none⟩, ⟨(some 12), .load false 1 (.t 11), none⟩, ⟨(some 13), .bin .lss (.t 12) (.c (.val (.int .i64 0))), none⟩, ⟨(some 14), .move (.t 13), none⟩, ⟨(some 15), .faddr 0 (.t 1), (some (14, false))⟩, ⟨(some 16), .load false 1 (.t 15), (some (14, false))⟩, ⟨(some 17), .bin .gtr (.t 16) (.c (.val (.int .i64 1000000))), (some (14, false))⟩, ⟨(some 18), .pick (.t 14) (.c (.val (.bool true))) (.t 17), none⟩])
  (.cond (.t 18) (.seq (.reg [⟨(some 2), .move (.c (.val (.int .i64 2))), none⟩])
  (.ret)) (.skip)))
  (.seq (.seq (.reg [⟨(some 19), .faddr 1 (.t 1), none⟩, ⟨(some 20), .load false 1 (.t 19), none⟩, ⟨(some 21), .len (.t 20), none⟩, ⟨(some 22), .bin .gtr (.t 21) (.c (.val (.int .i64 64))), none⟩])
  (.cond (.t 22) (.seq (.reg [⟨(some 2), .move (.c (.val (.int .i64 3))), none⟩])
  (.ret)) (.skip)))
  (.seq (.seq (.reg [⟨(some 23), .faddr 1 (.t 1), none⟩, ⟨(some 24), .load false 1 (.t 23), none⟩, ⟨(some 25), .len (.t 24), none⟩, ⟨(some 26), .move (.c (.val (.int .i64 0))), none⟩])
  (.block 0 (.loop (.seq (.reg [⟨(some 27), .bin .lss (.t 26) (.t 25), none⟩])
  (.seq (.cond (.t 27) (.skip) (.exit 0))
  (.seq (.block 1 (.seq (.reg [⟨(some 28), .iaddr 5 (.t 24) (.t 26), none⟩, ⟨(some 29), .load true 5 (.t 28), none⟩, ⟨(some 4), .box (.c (.agg [(.val (.int .i64 0)), (.val (.int .i64 0)), (.val (.int .i64 0)), (.sl 0 [] true), (.val (.int .i64 0))])), none⟩, ⟨none, .store 5 (.t 4) (.t 29), none⟩])
  (.seq (.reg [⟨(some 30), .faddr 0 (.t 4), none⟩, ⟨(some 31), .load false 1 (.t 30), none⟩, ⟨(some 32), .bin .lss (.t 31) (.c (.val (.int .i64 1))), none⟩, ⟨(some 33), .move (.t 32), none⟩, ⟨(some 34), .faddr 0 (.t 4), (some (33, false))⟩, ⟨(some 35), .load false 1 (.t 34), (some (33, false))⟩, ⟨(some 36), .bin .gtr (.t 35) (.c (.val (.int .i64 99))), (some (33, false))⟩, ⟨(some 37), .pick (.t 33) (.c (.val (.bool true))) (.t 36), none⟩, ⟨(some 38), .move (.t 37), none⟩, ⟨(some 39), .faddr 1 (.t 4), (some (38, false))⟩, ⟨(some 40), .load false 1 (.t 39), (some (38, false))⟩, ⟨(some 41), .bin .lss (.t 40) (.c (.val (.int .i64 1))), (some (38, false))⟩, ⟨(some 42), .pick (.t 38) (.c (.val (.bool true))) (.t 41), none⟩, ⟨(some 43), .move (.t 42), none⟩, ⟨(some 44), .faddr 1 (.t 4), (some (43, false))⟩, ⟨(some 45), .load false 1 (.t 44), (some (43, false))⟩, ⟨(some 46), .bin .gtr (.t 45) (.c (.val (.int .i64 99))), (some (43, false))⟩, ⟨(some 47), .pick (.t 43) (.c (.val (.bool true))) (.t 46), none⟩, ⟨(some 48), .move (.t 47), none⟩, ⟨(some 49), .faddr 4 (.t 4), (some (48, false))⟩, ⟨(some 50), .load false 1 (.t 49), (some (48, false))⟩, ⟨(some 51), .faddr 0 (.t 1), (some (48, false))⟩, ⟨(some 52), .load false 1 (.t 51), (some (48, false))⟩, ⟨(some 53), .bin .lss (.t 50) (.t 52), (some (48, false))⟩, ⟨(some 54), .pick (.t 48) (.c (.val (.bool true))) (.t 53), none⟩, ⟨(some 55), .move (.t 54), none⟩, ⟨(some 56), .faddr 4 (.t 4), (some (55, false))⟩, ⟨(some 57), .load false 1 (.t 56), (some (55, false))⟩, ⟨(some 58), .faddr 0 (.t 1), (some (55, false))⟩, ⟨(some 59), .load false 1 (.t 58), (some (55, false))⟩, ⟨(some 60), .bin .add (.t 59) (.c (.val (.int .i64 1000))), (some (55, false))⟩, ⟨(some 61), .bin .gtr (.t 57) (.t 60), (some (55, false))⟩, ⟨(some 62), .pick (.t 55) (.c (.val (.bool true))) (.t 61), none⟩])
  (.cond (.t 62) (.seq (.reg [⟨(some 2), .move (.c (.val (.int .i64 2))), none⟩])
  (.ret)) (.skip)))))
  (.reg [⟨(some 63), .bin .add (.t 26) (.c (.val (.int .i64 1))), none⟩, ⟨(some 26), .move (.t 63), none⟩])))))))
  (.seq (.seq (.reg [⟨(some 64), .faddr 1 (.t 1), none⟩, ⟨(some 65), .load false 1 (.t 64), none⟩, ⟨(some 66), .len (.t 65), none⟩, ⟨(some 67), .move (.c (.val (.int .i64 0))), none⟩])
  (.block 2 (.loop (.seq (.reg [⟨(some 68), .bin .lss (.t 67) (.t 66), none⟩])
  (.seq (.cond (.t 68) (.skip) (.exit 2))
  (.seq (.block 3 (.seq (.reg [⟨(some 69), .iaddr 5 (.t 65) (.t 67), none⟩, ⟨(some 70), .load true 5 (.t 69), none⟩, ⟨(some 6), .box (.c (.agg [(.val (.int .i64 0)), (.val (.int .i64 0)), (.val (.int .i64 0)), (.sl 0 [] true), (.val (.int .i64 0))])), none⟩, ⟨none, .store 5 (.t 6) (.t 70), none⟩])
  (.seq (.reg [⟨(some 71), .faddr 2 (.t 6), none⟩, ⟨(some 72), .load true 2 (.t 71), none⟩, ⟨(some 73), .call (.c (.func 57 [])) [(.t 72)], none⟩, ⟨(some 7), .move (.t 73), none⟩])
  (.seq (.reg [⟨(some 74), .move (.t 7), none⟩, ⟨(some 75), .bin .neq (.t 74) (.c (.val (.int .i64 0))), none⟩])
  (.cond (.t 75) (.seq (.reg [⟨(some 76), .move (.t 7), none⟩, ⟨(some 2), .move (.t 76), none⟩])
  (.ret)) (.skip))))))
  (.reg [⟨(some 77), .bin .add (.t 67) (.c (.val (.int .i64 1))), none⟩, ⟨(some 67), .move (.t 77), none⟩])))))))
  (.seq (.seq (.reg [⟨(some 78), .faddr 1 (.t 1), none⟩, ⟨(some 79), .load false 1 (.t 78), none⟩, ⟨(some 80), .len (.t 79), none⟩, ⟨(some 81), .move (.c (.val (.int .i64 0))), none⟩])
  (.block 4 (.loop (.seq (.reg [⟨(some 82), .bin .lss (.t 81) (.t 80), none⟩])
  (.seq (.cond (.t 82) (.skip) (.exit 4))
  (.seq (.block 5 (.seq (.reg [⟨(some 83), .iaddr 5 (.t 79) (.t 81), none⟩, ⟨(some 84), .load true 5 (.t 83), none⟩, ⟨(some 9), .box (.c (.agg [(.val (.int .i64 0)), (.val (.int .i64 0)), (.val (.int .i64 0)), (.sl 0 [] true), (.val (.int .i64 0))])), none⟩, ⟨none, .store 5 (.t 9) (.t 84), none⟩])
  (.seq (.dreg [⟨(some 85), .faddr 2 (.t 9), none⟩, ⟨(some 86), .load true 2 (.t 85), none⟩, ⟨(some 87), .call (.c (.func 17 [])) [], none⟩, ⟨(some 88), .call (.c (.func 27 [])) [(.t 86), (.t 87)], none⟩] [(1, 2)])
  (.cond (.t 88) (.seq (.reg [⟨(some 2), .move (.c (.val (.int .i64 1))), none⟩])
  (.ret)) (.skip)))))
  (.reg [⟨(some 89), .bin .add (.t 81) (.c (.val (.int .i64 1))), none⟩, ⟨(some 81), .move (.t 89), none⟩])))))))
  (.seq (.seq (.reg [⟨(some 10), .move (.c (.val (.int .i64 1))), none⟩])
  (.block 6 (.loop (.seq (.seq (.reg [⟨(some 90), .move (.t 10), none⟩, ⟨(some 91), .faddr 1 (.t 1), none⟩, ⟨(some 92), .load false 1 (.t 91), none⟩, ⟨(some 93), .len (.t 92), none⟩, ⟨(some 94), .bin .lss (.t 90) (.t 93), none⟩])
  (.cond (.t 94) (.skip) (.exit 6)))
  (.seq (.block 7 (.seq (.dreg [⟨(some 97), .faddr 1 (.t 1), none⟩, ⟨(some 98), .load false 1 (.t 97), none⟩, ⟨(some 99), .move (.t 10), none⟩, ⟨(some 100), .bin .sub (.t 99) (.c (.val (.int .i64 1))), none⟩, ⟨(some 101), .iaddr 5 (.t 98) (.t 100), none⟩, ⟨(some 102), .load true 5 (.t 101), none⟩, ⟨(some 103), .faddr 1 (.t 1), none⟩, ⟨(some 104), .load false 1 (.t 103), none⟩, ⟨(some 105), .move (.t 10), none⟩, ⟨(some 106), .iaddr 5 (.t 104) (.t 105), none⟩, ⟨(some 107), .faddr 1 (.t 106), none⟩, ⟨(some 108), .load false 1 (.t 107), none⟩, ⟨(some 109), .faddr 1 (.t 1), none⟩, ⟨(some 110), .load false 1 (.t 109), none⟩, ⟨(some 111), .move (.t 10), none⟩, ⟨(some 112), .iaddr 5 (.t 110) (.t 111), none⟩, ⟨(some 113), .faddr 0 (.t 112), none⟩, ⟨(some 114), .load false 1 (.t 113), none⟩, ⟨(some 115), .call (.c (.func 58 [])) [(.t 102), (.t 108), (.t 114)], none⟩, ⟨(some 116), .un .not (.t 115), none⟩] [(1, 7), (4, 7), (5, 7), (1, 9), (4, 9), (5, 9), (1, 11), (4, 11), (5, 11), (1, 13), (4, 13), (5, 13), (7, 13), (9, 13), (11, 13), (1, 15), (4, 15), (5, 15), (7, 15), (9, 15), (11, 15), (1, 17), (4, 17), (5, 17), (7, 17), (9, 17), (11, 17)])
  (.cond (.t 116) (.seq (.reg [⟨(some 2), .move (.c (.val (.int .i64 25))), none⟩])
  (.ret)) (.skip))))
  (.reg [⟨(some 95), .move (.t 10), none⟩, ⟨(some 96), .bin .add (.t 95) (.c (.val (.int .i64 1))), none⟩, ⟨(some 10), .move (.t 96), none⟩]))))))
  (.seq (.reg [⟨(some 2), .move (.c (.val (.int .i64 0))), none⟩])
  (.ret))))))))⟩
theorem cf31_ok : cFunc Try.prog Try.f31 = some cf31 := by kernel_rfl

/-- bitcast/member.Same -/
def cf32 : AF :=
  ⟨17, 2, [.tmp 4],
  .seq (.reg [⟨(some 2), .box (.t 0), none⟩, ⟨(some 3), .box (.t 1), none⟩, ⟨(some 4), .move (.c (.val (.bool false))), none⟩])
  (.seq (.reg [⟨(some 5), .faddr 0 (.t 2), none⟩, ⟨(some 6), .load false 1 (.t 5), none⟩, ⟨(some 7), .faddr 0 (.t 3), none⟩, ⟨(some 8), .load false 1 (.t 7), none⟩, ⟨(some 9), .bin .eql (.t 6) (.t 8), none⟩, ⟨(some 10), .move (.t 9), none⟩, ⟨(some 11), .faddr 1 (.t 2), (some (10, true))⟩, ⟨(some 12), .load false 1 (.t 11), (some (10, true))⟩, ⟨(some 13), .faddr 1 (.t 3), (some (10, true))⟩, ⟨(some 14), .load false 1 (.t 13), (some (10, true))⟩, ⟨(some 15), .call (.c (.func 59 [])) [(.t 12), (.t 14), (.c (.func 60 []))], (some (10, true))⟩, ⟨(some 16), .pick (.t 10) (.t 15) (.c (.val (.bool false))), none⟩, ⟨(some 4), .move (.t 16), none⟩])
  (.ret))⟩
theorem cf32_ok : cFunc Try.prog Try.f32 = some cf32 := by kernel_rfl

/-- bitcast/bitcastflow.Ints -/
def cf33 : AF :=
  ⟨26, 2, [.tmp 4],
  .seq (.reg [⟨(some 4), .move (.c (.val (.bool false))), none⟩])
  (.seq (.seq (.reg [⟨(some 6), .move (.t 0), none⟩, ⟨(some 7), .len (.t 6), none⟩, ⟨(some 8), .move (.t 1), none⟩, ⟨(some 9), .len (.t 8), none⟩, ⟨(some 10), .bin .neq (.t 7) (.t 9), none⟩])
  (.cond (.t 10) (.seq (.reg [⟨(some 4), .move (.c (.val (.bool false))), none⟩])
  (.ret)) (.skip)))
  (.seq (.seq (.reg [⟨(some 5), .move (.c (.val (.int .i64 0))), none⟩])
  (.block 0 (.loop (.seq (.seq (.reg [⟨(some 11), .move (.t 5), none⟩, ⟨(some 12), .move (.t 0), none⟩, ⟨(some 13), .len (.t 12), none⟩, ⟨(some 14), .bin .lss (.t 11) (.t 13), none⟩])
  (.cond (.t 14) (.skip) (.exit 0)))
  (.seq (.block 1 (.seq (.dreg [⟨(some 17), .move (.t 0), none⟩, ⟨(some 18), .move (.t 5), none⟩, ⟨(some 19), .iaddr 1 (.t 17) (.t 18), none⟩, ⟨(some 20), .load false 1 (.t 19), none⟩, ⟨(some 21), .move (.t 1), none⟩, ⟨(some 22), .move (.t 5), none⟩, ⟨(some 23), .iaddr 1 (.t 21) (.t 22), none⟩, ⟨(some 24), .load false 1 (.t 23), none⟩, ⟨(some 25), .bin .neq (.t 20) (.t 24), none⟩] [(2, 6), (3, 6), (2, 7), (3, 7)])
  (.cond (.t 25) (.seq (.reg [⟨(some 4), .move (.c (.val (.bool false))), none⟩])
  (.ret)) (.skip))))
  (.reg [⟨(some 15), .move (.t 5), none⟩, ⟨(some 16), .bin .add (.t 15) (.c (.val (.int .i64 1))), none⟩, ⟨(some 5), .move (.t 16), none⟩]))))))
  (.seq (.reg [⟨(some 4), .move (.c (.val (.bool true))), none⟩])
  (.ret))))⟩
theorem cf33_ok : cFunc Try.prog Try.f33 = some cf33 := by kernel_rfl

/-- bitcast/member.Groups -/
def cf34 : AF :=
  ⟨24, 1, [.tmp 2],
  .seq (.reg [⟨(some 1), .box (.t 0), none⟩, ⟨(some 2), .move (.c (.sl 0 [] true)), none⟩])
  (.seq (.seq (.reg [⟨(some 6), .load true 2 (.t 1), none⟩, ⟨(some 7), .call (.c (.func 25 [])) [(.t 6)], none⟩, ⟨(some 8), .bin .neq (.t 7) (.c (.val (.int .i64 0))), none⟩])
  (.cond (.t 8) (.seq (.reg [⟨(some 2), .move (.c (.sl 0 [] true)), none⟩])
  (.ret)) (.skip)))
  (.seq (.reg [⟨(some 3), .move (.c (.sl 0 [] true)), none⟩])
  (.seq (.seq (.reg [⟨(some 9), .faddr 1 (.t 1), none⟩, ⟨(some 10), .load false 1 (.t 9), none⟩, ⟨(some 11), .len (.t 10), none⟩, ⟨(some 12), .move (.c (.val (.int .i64 0))), none⟩])
  (.block 0 (.loop (.seq (.reg [⟨(some 13), .bin .lss (.t 12) (.t 11), none⟩])
  (.seq (.cond (.t 13) (.skip) (.exit 0))
  (.seq (.block 1 (.seq (.reg [⟨(some 14), .iaddr 5 (.t 10) (.t 12), none⟩, ⟨(some 15), .load true 5 (.t 14), none⟩, ⟨(some 5), .box (.c (.agg [(.val (.int .i64 0)), (.val (.int .i64 0)), (.val (.int .i64 0)), (.sl 0 [] true), (.val (.int .i64 0))])), none⟩, ⟨none, .store 5 (.t 5) (.t 15), none⟩])
  (.reg [⟨(some 16), .move (.t 3), none⟩, ⟨(some 17), .faddr 1 (.t 5), none⟩, ⟨(some 18), .load false 1 (.t 17), none⟩, ⟨(some 19), .lit 1 1 (.val (.int .i64 0)) [(0, (.t 18))], none⟩, ⟨(some 20), .append 1 8 (.t 16) (.t 19), none⟩, ⟨(some 3), .move (.t 20), none⟩])))
  (.reg [⟨(some 21), .bin .add (.t 12) (.c (.val (.int .i64 1))), none⟩, ⟨(some 12), .move (.t 21), none⟩])))))))
  (.seq (.reg [⟨(some 22), .move (.t 3), none⟩, ⟨(some 23), .call (.c (.func 62 [])) [(.t 22)], none⟩, ⟨(some 2), .move (.t 23), none⟩])
  (.ret)))))⟩
theorem cf34_ok : cFunc Try.prog Try.f34 = some cf34 := by kernel_rfl

/-- bitcast/bitcastref23.Groups -/
def cf35 : AF :=
  ⟨22, 1, [.tmp 2],
  .seq (.reg [⟨(some 1), .box (.t 0), none⟩, ⟨(some 2), .move (.c (.sl 0 [] true)), none⟩])
  (.seq (.reg [⟨(some 3), .move (.c (.sl 0 [] true)), none⟩])
  (.seq (.seq (.reg [⟨(some 6), .load true 2 (.t 1), none⟩, ⟨(some 7), .call (.c (.func 31 [])) [(.t 6)], none⟩, ⟨(some 8), .bin .eql (.t 7) (.c (.val (.int .i64 0))), none⟩])
  (.cond (.t 8) (.seq (.reg [⟨(some 9), .faddr 1 (.t 1), none⟩, ⟨(some 10), .load false 1 (.t 9), none⟩, ⟨(some 11), .len (.t 10), none⟩, ⟨(some 12), .move (.c (.val (.int .i64 0))), none⟩])
  (.block 0 (.loop (.seq (.reg [⟨(some 13), .bin .lss (.t 12) (.t 11), none⟩])
  (.seq (.cond (.t 13) (.skip) (.exit 0))
  (.seq (.block 1 (.seq (.reg [⟨(some 14), .iaddr 5 (.t 10) (.t 12), none⟩, ⟨(some 15), .load true 5 (.t 14), none⟩, ⟨(some 5), .box (.c (.agg [(.val (.int .i64 0)), (.val (.int .i64 0)), (.val (.int .i64 0)), (.sl 0 [] true), (.val (.int .i64 0))])), none⟩, ⟨none, .store 5 (.t 5) (.t 15), none⟩])
  (.reg [⟨(some 16), .move (.t 3), none⟩, ⟨(some 17), .faddr 1 (.t 5), none⟩, ⟨(some 18), .load false 1 (.t 17), none⟩, ⟨(some 19), .call (.c (.func 63 [])) [(.t 16), (.t 18)], none⟩, ⟨(some 3), .move (.t 19), none⟩])))
  (.reg [⟨(some 20), .bin .add (.t 12) (.c (.val (.int .i64 1))), none⟩, ⟨(some 12), .move (.t 20), none⟩]))))))) (.skip)))
  (.seq (.reg [⟨(some 21), .move (.t 3), none⟩, ⟨(some 2), .move (.t 21), none⟩])
  (.ret))))⟩
theorem cf35_ok : cFunc Try.prog Try.f35 = some cf35 := by kernel_rfl

/-- (*bitcast/bitcastflow.Tape).Pick -/
def cf36 : AF :=
  ⟨12, 2, [.tmp 4],
  .seq (.reg [⟨(some 4), .move (.c (.val (.int .i64 0))), none⟩])
  (.seq (.reg [⟨(some 5), .move (.t 1), none⟩, ⟨(some 6), .move (.t 0), none⟩, ⟨(some 7), .move (.t 1), none⟩, ⟨(some 8), .len (.t 7), none⟩, ⟨(some 9), .call (.c (.func 24 [])) [(.t 6), (.t 8)], none⟩, ⟨(some 10), .iaddr 1 (.t 5) (.t 9), none⟩, ⟨(some 11), .load false 1 (.t 10), none⟩, ⟨(some 4), .move (.t 11), none⟩])
  (.ret))⟩
theorem cf36_ok : cFunc Try.prog Try.f36 = some cf36 := by kernel_rfl

/-- bitcast/bitcastref23.Report -/
def cf37 : AF :=
  ⟨73, 5, [.cell 10 true 2, .tmp 11],
  .seq (.reg [⟨(some 5), .box (.t 0), none⟩, ⟨(some 8), .box (.t 3), none⟩, ⟨(some 10), .box (.c (.agg [(.val (.int .i64 0)), (.sl 0 [] true)])), none⟩, ⟨(some 11), .move (.c (.val (.int .i64 0))), none⟩])
  (.seq (.seq (.reg [⟨(some 15), .load true 2 (.t 5), none⟩, ⟨(some 16), .call (.c (.func 31 [])) [(.t 15)], none⟩, ⟨(some 12), .move (.t 16), none⟩])
  (.seq (.reg [⟨(some 17), .move (.t 12), none⟩, ⟨(some 18), .bin .neq (.t 17) (.c (.val (.int .i64 0))), none⟩])
  (.cond (.t 18) (.seq (.reg [⟨(some 19), .build [(.val (.int .i64 0)), (.sl 0 [] true)] [], none⟩, ⟨(some 20), .move (.t 12), none⟩, ⟨none, .store 2 (.t 10) (.t 19), none⟩, ⟨(some 11), .move (.t 20), none⟩])
  (.ret)) (.skip))))
  (.seq (.seq (.reg [⟨(some 21), .move (.t 1), none⟩, ⟨(some 22), .bin .lss (.t 21) (.c (.val (.int .i64 1))), none⟩, ⟨(some 23), .move (.t 22), none⟩, ⟨(some 24), .move (.t 1), (some (23, false))⟩, ⟨(some 25), .bin .gtr (.t 24) (.c (.val (.int .i64 99))), (some (23, false))⟩, ⟨(some 26), .pick (.t 23) (.c (.val (.bool true))) (.t 25), none⟩, ⟨(some 27), .move (.t 26), none⟩, ⟨(some 28), .move (.t 2), (some (27, false))⟩, ⟨(some 29), .bin .lss (.t 28) (.c (.val (.int .i64 1))), (some (27, false))⟩, ⟨(some 30), .pick (.t 27) (.c (.val (.bool true))) (.t 29), none⟩, ⟨(some 31), .move (.t 30), none⟩, ⟨(some 32), .move (.t 2), (some (31, false))⟩, ⟨(some 33), .bin .gtr (.t 32) (.c (.val (.int .i64 99))), (some (31, false))⟩, ⟨(some 34), .pick (.t 31) (.c (.val (.bool true))) (.t 33), none⟩, ⟨(some 35), .move (.t 34), none⟩, ⟨(some 36), .move (.t 4), (some (35, false))⟩, ⟨(some 37), .bin .lss (.t 36) (.c (.val (.int .i64 1))), (some (35, false))⟩, ⟨(some 38), .pick (.t 35) (.c (.val (.bool true))) (.t 37), none⟩, ⟨(some 39), .move (.t 38), none⟩, ⟨(some 40), .move (.t 4), (some (39, false))⟩, ⟨(some 41), .bin .gtr (.t 40) (.c (.val (.int .i64 1000))), (some (39, false))⟩, ⟨(some 42), .pick (.t 39) (.c (.val (.bool true))) (.t 41), none⟩])
  (.cond (.t 42) (.seq (.reg [⟨(some 43), .build [(.val (.int .i64 0)), (.sl 0 [] true)] [], none⟩, ⟨none, .store 2 (.t 10) (.t 43), none⟩, ⟨(some 11), .move (.c (.val (.int .i64 2))), none⟩])
  (.ret)) (.skip)))
  (.seq (.seq (.reg [⟨(some 44), .load true 2 (.t 8), none⟩, ⟨(some 45), .call (.c (.func 57 [])) [(.t 44)], none⟩, ⟨(some 13), .move (.t 45), none⟩])
  (.seq (.reg [⟨(some 46), .move (.t 13), none⟩, ⟨(some 47), .bin .neq (.t 46) (.c (.val (.int .i64 0))), none⟩])
  (.cond (.t 47) (.seq (.reg [⟨(some 48), .build [(.val (.int .i64 0)), (.sl 0 [] true)] [], none⟩, ⟨(some 49), .move (.t 13), none⟩, ⟨none, .store 2 (.t 10) (.t 48), none⟩, ⟨(some 11), .move (.t 49), none⟩])
  (.ret)) (.skip))))
  (.seq (.reg [⟨(some 50), .load true 2 (.t 5), none⟩, ⟨(some 51), .move (.t 1), none⟩, ⟨(some 52), .move (.t 2), none⟩, ⟨(some 53), .call (.c (.func 64 [])) [(.t 50), (.t 51), (.t 52)], none⟩, ⟨(some 14), .box (.c (.agg [(.val (.int .i64 0)), (.sl 0 [] true)])), none⟩, ⟨none, .store 2 (.t 14) (.t 53), none⟩])
  (.seq (.seq (.dreg [⟨(some 54), .load true 2 (.t 8), none⟩, ⟨(some 55), .call (.c (.func 17 [])) [], none⟩, ⟨(some 56), .call (.c (.func 27 [])) [(.t 54), (.t 55)], none⟩] [(0, 1)])
  (.cond (.t 56) (.seq (.reg [⟨(some 57), .load true 2 (.t 14), none⟩, ⟨none, .store 2 (.t 10) (.t 57), none⟩, ⟨(some 11), .move (.c (.val (.int .i64 0))), none⟩])
  (.ret)) (.skip)))
  (.seq (.seq (.reg [⟨(some 58), .faddr 1 (.t 14), none⟩, ⟨(some 59), .load false 1 (.t 58), none⟩, ⟨(some 60), .len (.t 59), none⟩, ⟨(some 61), .bin .geq (.t 60) (.c (.val (.int .i64 64))), none⟩])
  (.cond (.t 61) (.seq (.reg [⟨(some 62), .build [(.val (.int .i64 0)), (.sl 0 [] true)] [], none⟩, ⟨none, .store 2 (.t 10) (.t 62), none⟩, ⟨(some 11), .move (.c (.val (.int .i64 3))), none⟩])
  (.ret)) (.skip)))
  (.seq (.reg [⟨(some 63), .load true 2 (.t 14), none⟩, ⟨(some 64), .move (.t 1), none⟩, ⟨(some 65), .move (.t 2), none⟩, ⟨(some 66), .load true 2 (.t 8), none⟩, ⟨(some 67), .faddr 0 (.t 5), none⟩, ⟨(some 68), .load false 1 (.t 67), none⟩, ⟨(some 69), .move (.t 4), none⟩, ⟨(some 70), .bin .add (.t 68) (.t 69), none⟩, ⟨(some 71), .build [(.val (.int .i64 0)), (.val (.int .i64 0)), (.val (.int .i64 0)), (.sl 0 [] true), (.val (.int .i64 0))] [(0, 1, (.t 64)), (1, 1, (.t 65)), (2, 2, (.t 66)), (4, 1, (.t 70))], none⟩, ⟨(some 72), .call (.c (.func 65 [])) [(.t 63), (.t 71)], none⟩, ⟨none, .store 2 (.t 10) (.t 72), none⟩, ⟨(some 11), .move (.c (.val (.int .i64 0))), none⟩])
  (.ret))))))))⟩
theorem cf37_ok : cFunc Try.prog Try.f37 = some cf37 := by kernel_rfl

/-- bitcast/bitcastref23.Leave -/
def cf38 : AF :=
  ⟨55, 4, [.cell 8 true 2, .tmp 9],
  .seq (.reg [⟨(some 4), .box (.t 0), none⟩, ⟨(some 8), .box (.c (.agg [(.val (.int .i64 0)), (.sl 0 [] true)])), none⟩, ⟨(some 9), .move (.c (.val (.int .i64 0))), none⟩])
  (.seq (.seq (.reg [⟨(some 14), .load true 2 (.t 4), none⟩, ⟨(some 15), .call (.c (.func 31 [])) [(.t 14)], none⟩, ⟨(some 10), .move (.t 15), none⟩])
  (.seq (.reg [⟨(some 16), .move (.t 10), none⟩, ⟨(some 17), .bin .neq (.t 16) (.c (.val (.int .i64 0))), none⟩])
  (.cond (.t 17) (.seq (.reg [⟨(some 18), .build [(.val (.int .i64 0)), (.sl 0 [] true)] [], none⟩, ⟨(some 19), .move (.t 10), none⟩, ⟨none, .store 2 (.t 8) (.t 18), none⟩, ⟨(some 9), .move (.t 19), none⟩])
  (.ret)) (.skip))))
  (.seq (.seq (.reg [⟨(some 20), .move (.t 3), none⟩, ⟨(some 21), .bin .lss (.t 20) (.c (.val (.int .i64 0))), none⟩, ⟨(some 22), .move (.t 21), none⟩, ⟨(some 23), .move (.t 3), (some (22, false))⟩, ⟨(some 24), .bin .gtr (.t 23) (.c (.val (.int .i64 1000))), (some (22, false))⟩, ⟨(some 25), .pick (.t 22) (.c (.val (.bool true))) (.t 24), none⟩])
  (.cond (.t 25) (.seq (.reg [⟨(some 26), .build [(.val (.int .i64 0)), (.sl 0 [] true)] [], none⟩, ⟨none, .store 2 (.t 8) (.t 26), none⟩, ⟨(some 9), .move (.c (.val (.int .i64 2))), none⟩])
  (.ret)) (.skip)))
  (.seq (.reg [⟨(some 28), .load true 2 (.t 4), none⟩, ⟨(some 29), .move (.t 1), none⟩, ⟨(some 30), .move (.t 2), none⟩, ⟨(some 31), .call (.c (.func 40 [])) [(.t 28), (.t 29), (.t 30)], none⟩, ⟨(some 27), .move (.t 31), none⟩, ⟨(some 32), .ext 0 (.t 27), none⟩, ⟨(some 33), .ext 1 (.t 27), none⟩, ⟨(some 11), .box (.c (.agg [(.val (.int .i64 0)), (.val (.int .i64 0)), (.val (.int .i64 0)), (.sl 0 [] true), (.val (.int .i64 0))])), none⟩, ⟨none, .store 5 (.t 11) (.t 32), none⟩, ⟨(some 12), .move (.t 33), none⟩])
  (.seq (.seq (.reg [⟨(some 34), .move (.t 12), none⟩, ⟨(some 35), .un .not (.t 34), none⟩])
  (.cond (.t 35) (.seq (.reg [⟨(some 36), .build [(.val (.int .i64 0)), (.sl 0 [] true)] [], none⟩, ⟨none, .store 2 (.t 8) (.t 36), none⟩, ⟨(some 9), .move (.c (.val (.int .i64 4))), none⟩])
  (.ret)) (.skip)))
  (.seq (.reg [⟨(some 37), .load true 2 (.t 4), none⟩, ⟨(some 38), .move (.t 1), none⟩, ⟨(some 39), .move (.t 2), none⟩, ⟨(some 40), .call (.c (.func 64 [])) [(.t 37), (.t 38), (.t 39)], none⟩, ⟨(some 13), .box (.c (.agg [(.val (.int .i64 0)), (.sl 0 [] true)])), none⟩, ⟨none, .store 2 (.t 13) (.t 40), none⟩])
  (.seq (.seq (.reg [⟨(some 41), .move (.t 3), none⟩, ⟨(some 42), .bin .eql (.t 41) (.c (.val (.int .i64 0))), none⟩])
  (.cond (.t 42) (.seq (.reg [⟨(some 43), .load true 2 (.t 13), none⟩, ⟨none, .store 2 (.t 8) (.t 43), none⟩, ⟨(some 9), .move (.c (.val (.int .i64 0))), none⟩])
  (.ret)) (.skip)))
  (.seq (.reg [⟨(some 44), .faddr 4 (.t 11), none⟩, ⟨(some 45), .load false 1 (.t 44), none⟩, ⟨(some 46), .faddr 0 (.t 4), none⟩, ⟨(some 47), .load false 1 (.t 46), none⟩, ⟨(some 48), .move (.t 3), none⟩, ⟨(some 49), .bin .add (.t 47) (.t 48), none⟩, ⟨(some 50), .min [(.t 45), (.t 49)], none⟩, ⟨(some 51), .faddr 4 (.t 11), none⟩, ⟨none, .store 1 (.t 51) (.t 50), none⟩])
  (.seq (.reg [⟨(some 52), .load true 2 (.t 13), none⟩, ⟨(some 53), .load true 5 (.t 11), none⟩, ⟨(some 54), .call (.c (.func 65 [])) [(.t 52), (.t 53)], none⟩, ⟨none, .store 2 (.t 8) (.t 54), none⟩, ⟨(some 9), .move (.c (.val (.int .i64 0))), none⟩])
  (.ret)))))))))⟩
theorem cf38_ok : cFunc Try.prog Try.f38 = some cf38 := by kernel_rfl

/-- bitcast/bitcastref23.Tick -/
def cf39 : AF :=
  ⟨46, 2, [.cell 4 true 2, .tmp 5],
  .seq (.reg [⟨(some 2), .box (.t 0), none⟩, ⟨(some 4), .box (.c (.agg [(.val (.int .i64 0)), (.sl 0 [] true)])), none⟩, ⟨(some 5), .move (.c (.val (.int .i64 0))), none⟩])
  (.seq (.seq (.reg [⟨(some 10), .load true 2 (.t 2), none⟩, ⟨(some 11), .call (.c (.func 31 [])) [(.t 10)], none⟩, ⟨(some 6), .move (.t 11), none⟩])
  (.seq (.reg [⟨(some 12), .move (.t 6), none⟩, ⟨(some 13), .bin .neq (.t 12) (.c (.val (.int .i64 0))), none⟩])
  (.cond (.t 13) (.seq (.reg [⟨(some 14), .build [(.val (.int .i64 0)), (.sl 0 [] true)] [], none⟩, ⟨(some 15), .move (.t 6), none⟩, ⟨none, .store 2 (.t 4) (.t 14), none⟩, ⟨(some 5), .move (.t 15), none⟩])
  (.ret)) (.skip))))
  (.seq (.seq (.reg [⟨(some 16), .move (.t 1), none⟩, ⟨(some 17), .faddr 0 (.t 2), none⟩, ⟨(some 18), .load false 1 (.t 17), none⟩, ⟨(some 19), .bin .lss (.t 16) (.t 18), none⟩, ⟨(some 20), .move (.t 19), none⟩, ⟨(some 21), .move (.t 1), (some (20, false))⟩, ⟨(some 22), .bin .gtr (.t 21) (.c (.val (.int .i64 1000000))), (some (20, false))⟩, ⟨(some 23), .pick (.t 20) (.c (.val (.bool true))) (.t 22), none⟩])
  (.cond (.t 23) (.seq (.reg [⟨(some 24), .build [(.val (.int .i64 0)), (.sl 0 [] true)] [], none⟩, ⟨none, .store 2 (.t 4) (.t 24), none⟩, ⟨(some 5), .move (.c (.val (.int .i64 2))), none⟩])
  (.ret)) (.skip)))
  (.seq (.reg [⟨(some 25), .move (.t 1), none⟩, ⟨(some 26), .build [(.val (.int .i64 0)), (.sl 0 [] true)] [(0, 1, (.t 25))], none⟩, ⟨(some 7), .box (.c (.agg [(.val (.int .i64 0)), (.sl 0 [] true)])), none⟩, ⟨none, .store 2 (.t 7) (.t 26), none⟩])
  (.seq (.seq (.reg [⟨(some 27), .faddr 1 (.t 2), none⟩, ⟨(some 28), .load false 1 (.t 27), none⟩, ⟨(some 29), .len (.t 28), none⟩, ⟨(some 30), .move (.c (.val (.int .i64 0))), none⟩])
  (.block 0 (.loop (.seq (.reg [⟨(some 31), .bin .lss (.t 30) (.t 29), none⟩])
  (.seq (.cond (.t 31) (.skip) (.exit 0))
  (.seq (.block 1 (.seq (.reg [⟨(some 32), .iaddr 5 (.t 28) (.t 30), none⟩, ⟨(some 33), .load true 5 (.t 32), none⟩, ⟨(some 9), .box (.c (.agg [(.val (.int .i64 0)), (.val (.int .i64 0)), (.val (.int .i64 0)), (.sl 0 [] true), (.val (.int .i64 0))])), none⟩, ⟨none, .store 5 (.t 9) (.t 33), none⟩])
  (.seq (.reg [⟨(some 34), .faddr 4 (.t 9), none⟩, ⟨(some 35), .load false 1 (.t 34), none⟩, ⟨(some 36), .move (.t 1), none⟩, ⟨(some 37), .bin .geq (.t 35) (.t 36), none⟩])
  (.cond (.t 37) (.reg [⟨(some 38), .faddr 1 (.t 7), none⟩, ⟨(some 39), .load false 1 (.t 38), none⟩, ⟨(some 40), .load true 5 (.t 9), none⟩, ⟨(some 41), .lit 5 1 (.agg [(.val (.int .i64 0)), (.val (.int .i64 0)), (.val (.int .i64 0)), (.sl 0 [] true), (.val (.int .i64 0))]) [(0, (.t 40))], none⟩, ⟨(some 42), .append 5 56 (.t 39) (.t 41), none⟩, ⟨(some 43), .faddr 1 (.t 7), none⟩, ⟨none, .store 1 (.t 43) (.t 42), none⟩]) (.skip)))))
  (.reg [⟨(some 44), .bin .add (.t 30) (.c (.val (.int .i64 1))), none⟩, ⟨(some 30), .move (.t 44), none⟩])))))))
  (.seq (.reg [⟨(some 45), .load true 2 (.t 7), none⟩, ⟨none, .store 2 (.t 4) (.t 45), none⟩, ⟨(some 5), .move (.c (.val (.int .i64 0))), none⟩])
  (.ret))))))⟩
theorem cf39_ok : cFunc Try.prog Try.f39 = some cf39 := by kernel_rfl

/-- bitcast/bitcastref23.Find -/
def cf40 : AF :=
  ⟨33, 3, [.cell 6 true 5, .tmp 7],
  .seq (.reg [⟨(some 3), .box (.t 0), none⟩, ⟨(some 6), .box (.c (.agg [(.val (.int .i64 0)), (.val (.int .i64 0)), (.val (.int .i64 0)), (.sl 0 [] true), (.val (.int .i64 0))])), none⟩, ⟨(some 7), .move (.c (.val (.bool false))), none⟩])
  (.seq (.seq (.reg [⟨(some 10), .load true 2 (.t 3), none⟩, ⟨(some 11), .call (.c (.func 31 [])) [(.t 10)], none⟩, ⟨(some 12), .bin .eql (.t 11) (.c (.val (.int .i64 0))), none⟩])
  (.cond (.t 12) (.seq (.reg [⟨(some 13), .faddr 1 (.t 3), none⟩, ⟨(some 14), .load false 1 (.t 13), none⟩, ⟨(some 15), .len (.t 14), none⟩, ⟨(some 16), .move (.c (.val (.int .i64 0))), none⟩])
  (.block 0 (.loop (.seq (.reg [⟨(some 17), .bin .lss (.t 16) (.t 15), none⟩])
  (.seq (.cond (.t 17) (.skip) (.exit 0))
  (.seq (.block 1 (.seq (.reg [⟨(some 18), .iaddr 5 (.t 14) (.t 16), none⟩, ⟨(some 19), .load true 5 (.t 18), none⟩, ⟨(some 9), .box (.c (.agg [(.val (.int .i64 0)), (.val (.int .i64 0)), (.val (.int .i64 0)), (.sl 0 [] true), (.val (.int .i64 0))])), none⟩, ⟨none, .store 5 (.t 9) (.t 19), none⟩])
  (.seq (.reg [⟨(some 20), .faddr 0 (.t 9), none⟩, ⟨(some 21), .load false 1 (.t 20), none⟩, ⟨(some 22), .move (.t 1), none⟩, ⟨(some 23), .bin .eql (.t 21) (.t 22), none⟩, ⟨(some 24), .move (.t 23), none⟩, ⟨(some 25), .faddr 1 (.t 9), (some (24, true))⟩, ⟨(some 26), .load false 1 (.t 25), (some (24, true))⟩, ⟨(some 27), .move (.t 2), (some (24, true))⟩, ⟨(some 28), .bin .eql (.t 26) (.t 27), (some (24, true))⟩, ⟨(some 29), .pick (.t 24) (.t 28) (.c (.val (.bool false))), none⟩])
  (.cond (.t 29) (.seq (.reg [⟨(some 30), .load true 5 (.t 9), none⟩, ⟨none, .store 5 (.t 6) (.t 30), none⟩, ⟨(some 7), .move (.c (.val (.bool true))), none⟩])
  (.ret)) (.skip)))))
  (.reg [⟨(some 31), .bin .add (.t 16) (.c (.val (.int .i64 1))), none⟩, ⟨(some 16), .move (.t 31), none⟩]))))))) (.skip)))
  (.seq (.reg [⟨(some 32), .build [(.val (.int .i64 0)), (.val (.int .i64 0)), (.val (.int .i64 0)), (.sl 0 [] true), (.val (.int .i64 0))] [], none⟩, ⟨none, .store 5 (.t 6) (.t 32), none⟩, ⟨(some 7), .move (.c (.val (.bool false))), none⟩])
  (.ret)))⟩
theorem cf40_ok : cFunc Try.prog Try.f40 = some cf40 := by kernel_rfl

/-- bitcast/flows.valid -/
def cf41 : AF :=
  ⟨21, 1, [.tmp 2],
  .seq (.reg [⟨(some 1), .box (.t 0), none⟩, ⟨(some 2), .move (.c (.val (.bool false))), none⟩])
  (.seq (.reg [⟨(some 3), .faddr 0 (.t 1), none⟩, ⟨(some 4), .load false 1 (.t 3), none⟩, ⟨(some 5), .bin .geq (.t 4) (.c (.val (.int .i64 1))), none⟩, ⟨(some 6), .move (.t 5), none⟩, ⟨(some 7), .faddr 0 (.t 1), (some (6, true))⟩, ⟨(some 8), .load false 1 (.t 7), (some (6, true))⟩, ⟨(some 9), .bin .leq (.t 8) (.c (.val (.int .i64 99))), (some (6, true))⟩, ⟨(some 10), .pick (.t 6) (.t 9) (.c (.val (.bool false))), none⟩, ⟨(some 11), .move (.t 10), none⟩, ⟨(some 12), .faddr 1 (.t 1), (some (11, true))⟩, ⟨(some 13), .load false 1 (.t 12), (some (11, true))⟩, ⟨(some 14), .bin .geq (.t 13) (.c (.val (.int .i64 1))), (some (11, true))⟩, ⟨(some 15), .pick (.t 11) (.t 14) (.c (.val (.bool false))), none⟩, ⟨(some 16), .move (.t 15), none⟩, ⟨(some 17), .faddr 1 (.t 1), (some (16, true))⟩, ⟨(some 18), .load false 1 (.t 17), (some (16, true))⟩, ⟨(some 19), .bin .leq (.t 18) (.c (.val (.int .i64 99))), (some (16, true))⟩, ⟨(some 20), .pick (.t 16) (.t 19) (.c (.val (.bool false))), none⟩, ⟨(some 2), .move (.t 20), none⟩])
  (.ret))⟩
theorem cf41_ok : cFunc Try.prog Try.f41 = some cf41 := by kernel_rfl

/-- bitcast/member.within -/
def cf42 : AF :=
  ⟨15, 3, [.tmp 6],
  .seq (.reg [⟨(some 6), .move (.c (.val (.bool false))), none⟩])
  (.seq (.reg [⟨(some 7), .move (.t 0), none⟩, ⟨(some 8), .move (.t 1), none⟩, ⟨(some 9), .bin .geq (.t 7) (.t 8), none⟩, ⟨(some 10), .move (.t 9), none⟩, ⟨(some 11), .move (.t 0), (some (10, true))⟩, ⟨(some 12), .move (.t 2), (some (10, true))⟩, ⟨(some 13), .bin .leq (.t 11) (.t 12), (some (10, true))⟩, ⟨(some 14), .pick (.t 10) (.t 13) (.c (.val (.bool false))), none⟩, ⟨(some 6), .move (.t 14), none⟩])
  (.ret))⟩
theorem cf42_ok : cFunc Try.prog Try.f42 = some cf42 := by kernel_rfl

/-- bitcast/filter.Validate -/
def cf43 : AF :=
  ⟨47, 1, [.tmp 2],
  .seq (.reg [⟨(some 1), .box (.t 0), none⟩, ⟨(some 2), .move (.c (.val (.int .i64 0))), none⟩])
  (.seq (.seq (.reg [⟨(some 6), .faddr 0 (.t 1), none⟩, ⟨(some 7), .load false 1 (.t 6), none⟩, ⟨(some 8), .bin .neq (.t 7) (.c (.val (.int .i64 1))), none⟩, ⟨(some 9), .move (.t 8), none⟩, ⟨(some 10), .faddr 0 (.t 1), (some (9, true))⟩, ⟨(some 11), .load false 1 (.t 10), (some (9, true))⟩, ⟨(some 12), .bin .neq (.t 11) (.c (.val (.int .i64 2))), (some (9, true))⟩, ⟨(some 13), .pick (.t 9) (.t 12) (.c (.val (.bool false))), none⟩])
  (.cond (.t 13) (.seq (.reg [⟨(some 2), .move (.c (.val (.int .i64 1))), none⟩])
  (.ret)) (.skip)))
  (.seq (.seq (.reg [⟨(some 14), .faddr 1 (.t 1), none⟩, ⟨(some 15), .load false 1 (.t 14), none⟩, ⟨(some 16), .len (.t 15), none⟩, ⟨(some 17), .move (.c (.val (.int .i64 0))), none⟩])
  (.block 0 (.loop (.seq (.reg [⟨(some 18), .bin .lss (.t 17) (.t 16), none⟩])
  (.seq (.cond (.t 18) (.skip) (.exit 0))
  (.seq (.block 1 (.seq (.reg [⟨(some 19), .iaddr 1 (.t 15) (.t 17), none⟩, ⟨(some 20), .load false 1 (.t 19), none⟩, ⟨(some 4), .move (.t 20), none⟩])
  (.seq (.reg [⟨(some 21), .move (.t 4), none⟩, ⟨(some 22), .bin .lss (.t 21) (.c (.val (.int .i64 1))), none⟩, ⟨(some 23), .move (.t 22), none⟩, ⟨(some 24), .move (.t 4), (some (23, false))⟩, ⟨(some 25), .bin .gtr (.t 24) (.c (.val (.int .i64 99))), (some (23, false))⟩, ⟨(some 26), .pick (.t 23) (.c (.val (.bool true))) (.t 25), none⟩])
  (.cond (.t 26) (.seq (.reg [⟨(some 2), .move (.c (.val (.int .i64 2))), none⟩])
  (.ret)) (.skip)))))
  (.reg [⟨(some 27), .bin .add (.t 17) (.c (.val (.int .i64 1))), none⟩, ⟨(some 17), .move (.t 27), none⟩])))))))
  (.seq (.seq (.reg [⟨(some 5), .move (.c (.val (.int .i64 1))), none⟩])
  (.block 2 (.loop (.seq (.seq (.reg [⟨(some 28), .move (.t 5), none⟩, ⟨(some 29), .faddr 1 (.t 1), none⟩, ⟨(some 30), .load false 1 (.t 29), none⟩, ⟨(some 31), .len (.t 30), none⟩, ⟨(some 32), .bin .lss (.t 28) (.t 31), none⟩])
  (.cond (.t 32) (.skip) (.exit 2)))
  (.seq (.block 3 (.seq (.dreg [⟨(some 35), .faddr 1 (.t 1), none⟩, ⟨(some 36), .load false 1 (.t 35), none⟩, ⟨(some 37), .move (.t 5), none⟩, ⟨(some 38), .bin .sub (.t 37) (.c (.val (.int .i64 1))), none⟩, ⟨(some 39), .iaddr 1 (.t 36) (.t 38), none⟩, ⟨(some 40), .load false 1 (.t 39), none⟩, ⟨(some 41), .faddr 1 (.t 1), none⟩, ⟨(some 42), .load false 1 (.t 41), none⟩, ⟨(some 43), .move (.t 5), none⟩, ⟨(some 44), .iaddr 1 (.t 42) (.t 43), none⟩, ⟨(some 45), .load false 1 (.t 44), none⟩, ⟨(some 46), .bin .geq (.t 40) (.t 45), none⟩] [(1, 7), (4, 7), (5, 7), (1, 9), (4, 9), (5, 9), (1, 10), (4, 10), (5, 10)])
  (.cond (.t 46) (.seq (.reg [⟨(some 2), .move (.c (.val (.int .i64 25))), none⟩])
  (.ret)) (.skip))))
  (.reg [⟨(some 33), .move (.t 5), none⟩, ⟨(some 34), .bin .add (.t 33) (.c (.val (.int .i64 1))), none⟩, ⟨(some 5), .move (.t 34), none⟩]))))))
  (.seq (.reg [⟨(some 2), .move (.c (.val (.int .i64 0))), none⟩])
  (.ret)))))⟩
theorem cf43_ok : cFunc Try.prog Try.f43 = some cf43 := by kernel_rfl

/-- bitcast/member.selected -/
def cf44 : AF :=
  ⟨24, 2, [.tmp 4],
  .seq (.reg [⟨(some 4), .move (.c (.sl 0 [] true)), none⟩])
  (.seq (.reg [⟨(some 5), .move (.c (.sl 0 [] true)), none⟩])
  (.seq (.seq (.reg [⟨(some 8), .move (.t 0), none⟩, ⟨(some 9), .len (.t 8), none⟩, ⟨(some 10), .move (.c (.val (.int .i64 0))), none⟩])
  (.block 0 (.loop (.seq (.reg [⟨(some 11), .bin .lss (.t 10) (.t 9), none⟩])
  (.seq (.cond (.t 11) (.skip) (.exit 0))
  (.seq (.block 1 (.seq (.reg [⟨(some 12), .iaddr 5 (.t 8) (.t 10), none⟩, ⟨(some 13), .load true 5 (.t 12), none⟩, ⟨(some 7), .box (.c (.agg [(.val (.int .i64 0)), (.val (.int .i64 0)), (.val (.int .i64 0)), (.sl 0 [] true), (.val (.int .i64 0))])), none⟩, ⟨none, .store 5 (.t 7) (.t 13), none⟩])
  (.seq (.reg [⟨(some 14), .move (.t 1), none⟩, ⟨(some 15), .load true 5 (.t 7), none⟩, ⟨(some 16), .call (.t 14) [(.t 15)], none⟩])
  (.cond (.t 16) (.reg [⟨(some 17), .move (.t 5), none⟩, ⟨(some 18), .load true 5 (.t 7), none⟩, ⟨(some 19), .call (.c (.func 50 [])) [(.t 18)], none⟩, ⟨(some 20), .lit 5 1 (.agg [(.val (.int .i64 0)), (.val (.int .i64 0)), (.val (.int .i64 0)), (.sl 0 [] true), (.val (.int .i64 0))]) [(0, (.t 19))], none⟩, ⟨(some 21), .append 5 56 (.t 17) (.t 20), none⟩, ⟨(some 5), .move (.t 21), none⟩]) (.skip)))))
  (.reg [⟨(some 22), .bin .add (.t 10) (.c (.val (.int .i64 1))), none⟩, ⟨(some 10), .move (.t 22), none⟩])))))))
  (.seq (.reg [⟨(some 23), .move (.t 5), none⟩, ⟨(some 4), .move (.t 23), none⟩])
  (.ret))))⟩
theorem cf44_ok : cFunc Try.prog Try.f44 = some cf44 := by kernel_rfl

/-- bitcast/member.Report$1 -/
def cf45 : AF :=
  ⟨15, 3, [.tmp 4],
  .seq (.reg [⟨(some 3), .box (.t 0), none⟩, ⟨(some 4), .move (.c (.val (.bool false))), none⟩])
  (.seq (.reg [⟨(some 5), .faddr 0 (.t 3), none⟩, ⟨(some 6), .load false 1 (.t 5), none⟩, ⟨(some 7), .load false 1 (.t 1), none⟩, ⟨(some 8), .bin .neq (.t 6) (.t 7), none⟩, ⟨(some 9), .move (.t 8), none⟩, ⟨(some 10), .faddr 1 (.t 3), (some (9, false))⟩, ⟨(some 11), .load false 1 (.t 10), (some (9, false))⟩, ⟨(some 12), .load false 1 (.t 2), (some (9, false))⟩, ⟨(some 13), .bin .neq (.t 11) (.t 12), (some (9, false))⟩, ⟨(some 14), .pick (.t 9) (.c (.val (.bool true))) (.t 13), none⟩, ⟨(some 4), .move (.t 14), none⟩])
  (.ret))⟩
theorem cf45_ok : cFunc Try.prog Try.f45 = some cf45 := by kernel_rfl

/-- bitcast/member.nothing -/
def cf46 : AF :=
  ⟨12, 1, [.tmp 2],
  .seq (.reg [⟨(some 1), .box (.t 0), none⟩, ⟨(some 2), .move (.c (.val (.bool false))), none⟩])
  (.seq (.reg [⟨(some 3), .faddr 0 (.t 1), none⟩, ⟨(some 4), .load false 1 (.t 3), none⟩, ⟨(some 5), .bin .eql (.t 4) (.c (.val (.int .i64 1))), none⟩, ⟨(some 6), .move (.t 5), none⟩, ⟨(some 7), .faddr 1 (.t 1), (some (6, true))⟩, ⟨(some 8), .load false 1 (.t 7), (some (6, true))⟩, ⟨(some 9), .len (.t 8), (some (6, true))⟩, ⟨(some 10), .bin .eql (.t 9) (.c (.val (.int .i64 0))), (some (6, true))⟩, ⟨(some 11), .pick (.t 6) (.t 10) (.c (.val (.bool false))), none⟩, ⟨(some 2), .move (.t 11), none⟩])
  (.ret))⟩
theorem cf46_ok : cFunc Try.prog Try.f46 = some cf46 := by kernel_rfl

/-- slices.BinarySearchFunc[[]bitcast/api.Member,bitcast/api.Member,bitcast/member.key] -/
def cf47 : AF :=
  ⟨49, 3, [.tmp 6, .tmp 7],
  .seq (.reg [⟨(some 4), .box (.t 1), none⟩, ⟨(some 6), .move (.c (.val (.int .i64 0))), none⟩, ⟨(some 7), .move (.c (.val (.bool false))), none⟩])
  (.seq (.reg [⟨(some 12), .move (.t 0), none⟩, ⟨(some 13), .len (.t 12), none⟩, ⟨(some 8), .move (.t 13), none⟩])
  (.seq (.reg [⟨(some 14), .move (.t 8), none⟩, ⟨(some 9), .move (.c (.val (.int .i64 0))), none⟩, ⟨(some 10), .move (.t 14), none⟩])
  (.seq (.block 0 (.loop (.seq (.seq (.reg [⟨(some 15), .move (.t 9), none⟩, ⟨(some 16), .move (.t 10), none⟩, ⟨(some 17), .bin .lss (.t 15) (.t 16), none⟩])
  (.cond (.t 17) (.skip) (.exit 0)))
  (.block 1 (.seq (.reg [⟨(some 18), .move (.t 9), none⟩, ⟨(some 19), .move (.t 10), none⟩, ⟨(some 20), .bin .add (.t 18) (.t 19), none⟩, ⟨(some 21), .convI .u64 (.t 20), none⟩, ⟨(some 22), .bin .shr (.t 21) (.c (.val (.int .u64 1))), none⟩, ⟨(some 23), .convI .i64 (.t 22), none⟩, ⟨(some 11), .move (.t 23), none⟩])
  (.seq (.dreg [⟨(some 24), .move (.t 2), none⟩, ⟨(some 25), .move (.t 0), none⟩, ⟨(some 26), .move (.t 11), none⟩, ⟨(some 27), .iaddr 5 (.t 25) (.t 26), none⟩, ⟨(some 28), .load true 5 (.t 27), none⟩, ⟨(some 29), .load true 2 (.t 4), none⟩, ⟨(some 30), .call (.t 24) [(.t 28), (.t 29)], none⟩, ⟨(some 31), .bin .lss (.t 30) (.c (.val (.int .i64 0))), none⟩] [(3, 5), (4, 5)])
  (.cond (.t 31) (.reg [⟨(some 32), .move (.t 11), none⟩, ⟨(some 33), .bin .add (.t 32) (.c (.val (.int .i64 1))), none⟩, ⟨(some 9), .move (.t 33), none⟩]) (.reg [⟨(some 34), .move (.t 11), none⟩, ⟨(some 10), .move (.t 34), none⟩]))))))))
  (.seq (.dreg [⟨(some 35), .move (.t 9), none⟩, ⟨(some 36), .move (.t 9), none⟩, ⟨(some 37), .move (.t 8), none⟩, ⟨(some 38), .bin .lss (.t 36) (.t 37), none⟩, ⟨(some 39), .move (.t 38), none⟩, ⟨(some 40), .move (.t 2), (some (39, true))⟩, ⟨(some 41), .move (.t 0), (some (39, true))⟩, ⟨(some 42), .move (.t 9), (some (39, true))⟩, ⟨(some 43), .iaddr 5 (.t 41) (.t 42), (some (39, true))⟩, ⟨(some 44), .load true 5 (.t 43), (some (39, true))⟩, ⟨(some 45), .load true 2 (.t 4), (some (39, true))⟩, ⟨(some 46), .call (.t 40) [(.t 44), (.t 45)], (some (39, true))⟩, ⟨(some 47), .bin .eql (.t 46) (.c (.val (.int .i64 0))), (some (39, true))⟩, ⟨(some 48), .pick (.t 39) (.t 47) (.c (.val (.bool false))), none⟩, ⟨(some 6), .move (.t 35), none⟩, ⟨(some 7), .move (.t 48), none⟩] [(8, 10), (9, 10)])
  (.ret)))))⟩
theorem cf47_ok : cFunc Try.prog Try.f47 = some cf47 := by kernel_rfl

/-- bitcast/member.compare -/
def cf48 : AF :=
  ⟨17, 2, [.tmp 4],
  .seq (.reg [⟨(some 2), .box (.t 0), none⟩, ⟨(some 3), .box (.t 1), none⟩, ⟨(some 4), .move (.c (.val (.int .i64 0))), none⟩])
  (.seq (.dreg [⟨(some 5), .faddr 1 (.t 2), none⟩, ⟨(some 6), .load false 1 (.t 5), none⟩, ⟨(some 7), .faddr 0 (.t 3), none⟩, ⟨(some 8), .load false 1 (.t 7), none⟩, ⟨(some 9), .call (.c (.func 67 [])) [(.t 6), (.t 8)], none⟩, ⟨(some 10), .faddr 0 (.t 2), none⟩, ⟨(some 11), .load false 1 (.t 10), none⟩, ⟨(some 12), .faddr 1 (.t 3), none⟩, ⟨(some 13), .load false 1 (.t 12), none⟩, ⟨(some 14), .call (.c (.func 67 [])) [(.t 11), (.t 13)], none⟩, ⟨(some 15), .lit 1 2 (.val (.int .i64 0)) [(0, (.t 9)), (1, (.t 14))], none⟩, ⟨(some 16), .call (.c (.func 66 [])) [(.t 15)], none⟩, ⟨(some 4), .move (.t 16), none⟩] [(1, 3), (1, 6), (3, 6), (4, 6), (1, 8), (3, 8), (4, 8), (6, 8)])
  (.ret))⟩
theorem cf48_ok : cFunc Try.prog Try.f48 = some cf48 := by kernel_rfl

/-- slices.Insert[[]bitcast/api.Member,bitcast/api.Member] -/
def cf49 : AF :=
  ⟨95, 3, [.tmp 6],
  .seq (.reg [⟨(some 6), .move (.c (.sl 0 [] true)), none⟩])
  (.seq (.reg [⟨(some 10), .move (.t 0), none⟩, ⟨(some 11), .move (.t 1), none⟩, ⟨(some 12), .slice 5 (.t 10) (some (.t 11)) none none, none⟩])
  (.seq (.reg [⟨(some 13), .move (.t 2), none⟩, ⟨(some 14), .len (.t 13), none⟩, ⟨(some 7), .move (.t 14), none⟩])
  (.seq (.seq (.reg [⟨(some 15), .move (.t 7), none⟩, ⟨(some 16), .bin .eql (.t 15) (.c (.val (.int .i64 0))), none⟩])
  (.cond (.t 16) (.seq (.reg [⟨(some 17), .move (.t 0), none⟩, ⟨(some 6), .move (.t 17), none⟩])
  (.ret)) (.skip)))
  (.seq (.reg [⟨(some 18), .move (.t 0), none⟩, ⟨(some 19), .len (.t 18), none⟩, ⟨(some 8), .move (.t 19), none⟩])
  (.seq (.seq (.reg [⟨(some 20), .move (.t 1), none⟩, ⟨(some 21), .move (.t 8), none⟩, ⟨(some 22), .bin .eql (.t 20) (.t 21), none⟩])
  (.cond (.t 22) (.seq (.reg [⟨(some 23), .move (.t 0), none⟩, ⟨(some 24), .move (.t 2), none⟩, ⟨(some 25), .append 5 56 (.t 23) (.t 24), none⟩, ⟨(some 6), .move (.t 25), none⟩])
  (.ret)) (.skip)))
  (.seq (.seq (.reg [⟨(some 26), .move (.t 8), none⟩, ⟨(some 27), .move (.t 7), none⟩, ⟨(some 28), .bin .add (.t 26) (.t 27), none⟩, ⟨(some 29), .move (.t 0), none⟩, ⟨(some 30), .cap (.t 29), none⟩, ⟨(some 31), .bin .gtr (.t 28) (.t 30), none⟩])
  (.cond (.t 31) (.seq (.reg [⟨(some 32), .move (.t 0), none⟩, ⟨(some 33), .move (.t 1), none⟩, ⟨(some 34), .slice 5 (.t 32) none (some (.t 33)) none, none⟩, ⟨(some 35), .move (.t 8), none⟩, ⟨(some 36), .move (.t 7), none⟩, ⟨(some 37), .bin .add (.t 35) (.t 36), none⟩, ⟨(some 38), .move (.t 1), none⟩, ⟨(some 39), .bin .sub (.t 37) (.t 38), none⟩, ⟨(some 40), .appendZ 5 56 ((.agg [(.val (.int .i64 0)), (.val (.int .i64 0)), (.val (.int .i64 0)), (.sl 0 [] true), (.val (.int .i64 0))])) (.t 34) (.t 39), none⟩, ⟨(some 9), .move (.t 40), none⟩])
  (.seq (.reg [⟨(some 41), .move (.t 9), none⟩, ⟨(some 42), .move (.t 1), none⟩, ⟨(some 43), .slice 5 (.t 41) (some (.t 42)) none none, none⟩, ⟨(some 44), .move (.t 2), none⟩, ⟨(some 45), .copy 5 (.t 43) (.t 44), none⟩])
  (.seq (.dreg [⟨(some 46), .move (.t 9), none⟩, ⟨(some 47), .move (.t 1), none⟩, ⟨(some 48), .move (.t 7), none⟩, ⟨(some 49), .bin .add (.t 47) (.t 48), none⟩, ⟨(some 50), .slice 5 (.t 46) (some (.t 49)) none none, none⟩, ⟨(some 51), .move (.t 0), none⟩, ⟨(some 52), .move (.t 1), none⟩, ⟨(some 53), .slice 5 (.t 51) (some (.t 52)) none none, none⟩, ⟨(some 54), .copy 5 (.t 50) (.t 53), none⟩] [(4, 7)])
  (.seq (.reg [⟨(some 55), .move (.t 9), none⟩, ⟨(some 6), .move (.t 55), none⟩])
  (.ret))))) (.skip)))
  (.seq (.reg [⟨(some 56), .move (.t 0), none⟩, ⟨(some 57), .move (.t 8), none⟩, ⟨(some 58), .move (.t 7), none⟩, ⟨(some 59), .bin .add (.t 57) (.t 58), none⟩, ⟨(some 60), .slice 5 (.t 56) none (some (.t 59)) none, none⟩, ⟨(some 0), .move (.t 60), none⟩])
  (.seq (.seq (.reg [⟨(some 61), .move (.t 2), none⟩, ⟨(some 62), .move (.t 0), none⟩, ⟨(some 63), .move (.t 1), none⟩, ⟨(some 64), .move (.t 7), none⟩, ⟨(some 65), .bin .add (.t 63) (.t 64), none⟩, ⟨(some 66), .slice 5 (.t 62) (some (.t 65)) none none, none⟩, ⟨(some 67), .call (.c (.func 68 [])) [(.t 61), (.t 66)], none⟩, ⟨(some 68), .un .not (.t 67), none⟩])
  (.cond (.t 68) (.seq (.dreg [⟨(some 69), .move (.t 0), none⟩, ⟨(some 70), .move (.t 1), none⟩, ⟨(some 71), .move (.t 7), none⟩, ⟨(some 72), .bin .add (.t 70) (.t 71), none⟩, ⟨(some 73), .slice 5 (.t 69) (some (.t 72)) none none, none⟩, ⟨(some 74), .move (.t 0), none⟩, ⟨(some 75), .move (.t 1), none⟩, ⟨(some 76), .slice 5 (.t 74) (some (.t 75)) none none, none⟩, ⟨(some 77), .copy 5 (.t 73) (.t 76), none⟩] [(4, 7)])
  (.seq (.reg [⟨(some 78), .move (.t 0), none⟩, ⟨(some 79), .move (.t 1), none⟩, ⟨(some 80), .slice 5 (.t 78) (some (.t 79)) none none, none⟩, ⟨(some 81), .move (.t 2), none⟩, ⟨(some 82), .copy 5 (.t 80) (.t 81), none⟩])
  (.seq (.reg [⟨(some 83), .move (.t 0), none⟩, ⟨(some 6), .move (.t 83), none⟩])
  (.ret)))) (.skip)))
  (.seq (.reg [⟨(some 84), .move (.t 0), none⟩, ⟨(some 85), .move (.t 8), none⟩, ⟨(some 86), .slice 5 (.t 84) (some (.t 85)) none none, none⟩, ⟨(some 87), .move (.t 2), none⟩, ⟨(some 88), .copy 5 (.t 86) (.t 87), none⟩])
  (.seq (.reg [⟨(some 89), .move (.t 0), none⟩, ⟨(some 90), .move (.t 1), none⟩, ⟨(some 91), .slice 5 (.t 89) (some (.t 90)) none none, none⟩, ⟨(some 92), .move (.t 7), none⟩, ⟨(some 93), .call (.c (.func 69 [])) [(.t 91), (.t 92)], none⟩])
  (.seq (.reg [⟨(some 94), .move (.t 0), none⟩, ⟨(some 6), .move (.t 94), none⟩])
  (.ret))))))))))))⟩
theorem cf49_ok : cFunc Try.prog Try.f49 = some cf49 := by kernel_rfl

/-- bitcast/member.copied -/
def cf50 : AF :=
  ⟨10, 1, [.cell 2 true 5],
  .seq (.reg [⟨(some 1), .box (.t 0), none⟩, ⟨(some 2), .box (.c (.agg [(.val (.int .i64 0)), (.val (.int .i64 0)), (.val (.int .i64 0)), (.sl 0 [] true), (.val (.int .i64 0))])), none⟩])
  (.seq (.reg [⟨(some 3), .faddr 2 (.t 1), none⟩, ⟨(some 4), .faddr 1 (.t 3), none⟩, ⟨(some 5), .load false 1 (.t 4), none⟩, ⟨(some 6), .call (.c (.func 70 [])) [(.t 5)], none⟩, ⟨(some 7), .faddr 2 (.t 1), none⟩, ⟨(some 8), .faddr 1 (.t 7), none⟩, ⟨none, .store 1 (.t 8) (.t 6), none⟩])
  (.seq (.reg [⟨(some 9), .load true 5 (.t 1), none⟩, ⟨none, .store 5 (.t 2) (.t 9), none⟩])
  (.ret)))⟩
theorem cf50_ok : cFunc Try.prog Try.f50 = some cf50 := by kernel_rfl

/-- (*bitcast/bitcastflow.Tape).Sources -/
def cf51 : AF :=
  ⟨27, 2, [.tmp 4],
  .seq (.reg [⟨(some 4), .move (.c (.sl 0 [] true)), none⟩])
  (.seq (.reg [⟨(some 5), .move (.c (.sl 0 [] true)), none⟩])
  (.seq (.seq (.reg [⟨(some 7), .move (.t 0), none⟩, ⟨(some 8), .move (.t 1), none⟩, ⟨(some 9), .bin .add (.t 8) (.c (.val (.int .i64 1))), none⟩, ⟨(some 10), .call (.c (.func 24 [])) [(.t 7), (.t 9)], none⟩, ⟨(some 6), .move (.t 10), none⟩])
  (.block 0 (.loop (.seq (.seq (.reg [⟨(some 11), .move (.t 6), none⟩, ⟨(some 12), .bin .gtr (.t 11) (.c (.val (.int .i64 0))), none⟩])
  (.cond (.t 12) (.skip) (.exit 0)))
  (.seq (.block 1 (.reg [⟨(some 15), .move (.t 5), none⟩, ⟨(some 16), .move (.t 0), none⟩, ⟨(some 17), .move (.t 0), none⟩, ⟨(some 18), .call (.c (.func 10 [])) [(.t 17), (.c (.val (.int .i64 1))), (.c (.val (.int .i64 6)))], none⟩, ⟨(some 19), .move (.t 0), none⟩, ⟨(some 20), .call (.c (.func 10 [])) [(.t 19), (.c (.val (.int .i64 1))), (.c (.val (.int .i64 20)))], none⟩, ⟨(some 21), .move (.t 0), none⟩, ⟨(some 22), .call (.c (.func 10 [])) [(.t 21), (.c (.val (.int .i64 1))), (.c (.val (.int .i64 99)))], none⟩, ⟨(some 23), .lit 1 3 (.val (.int .i64 0)) [(0, (.t 18)), (1, (.t 20)), (2, (.t 22))], none⟩, ⟨(some 24), .call (.c (.func 36 [])) [(.t 16), (.t 23)], none⟩, ⟨(some 25), .call (.c (.func 63 [])) [(.t 15), (.t 24)], none⟩, ⟨(some 5), .move (.t 25), none⟩]))
  (.reg [⟨(some 13), .move (.t 6), none⟩, ⟨(some 14), .bin .sub (.t 13) (.c (.val (.int .i64 1))), none⟩, ⟨(some 6), .move (.t 14), none⟩]))))))
  (.seq (.reg [⟨(some 26), .move (.t 5), none⟩, ⟨(some 4), .move (.t 26), none⟩])
  (.ret))))⟩
theorem cf51_ok : cFunc Try.prog Try.f51 = some cf51 := by kernel_rfl

/-- bitcast/member.Tick$1 -/
def cf52 : AF :=
  ⟨8, 2, [.tmp 3],
  .seq (.reg [⟨(some 2), .box (.t 0), none⟩, ⟨(some 3), .move (.c (.val (.bool false))), none⟩])
  (.seq (.reg [⟨(some 4), .faddr 4 (.t 2), none⟩, ⟨(some 5), .load false 1 (.t 4), none⟩, ⟨(some 6), .load false 1 (.t 1), none⟩, ⟨(some 7), .bin .geq (.t 5) (.t 6), none⟩, ⟨(some 3), .move (.t 7), none⟩])
  (.ret))⟩
theorem cf52_ok : cFunc Try.prog Try.f52 = some cf52 := by kernel_rfl

/-- (*bitcast/bitcastflow.Tape).Raw -/
def cf53 : AF :=
  ⟨31, 1, [.tmp 2],
  .seq (.reg [⟨(some 2), .move (.c (.val (.int .i64 0))), none⟩])
  (.seq (.seq (.dreg [⟨(some 3), .move (.t 0), none⟩, ⟨(some 4), .nilc (.t 3), none⟩, ⟨(some 5), .faddr 1 (.t 4), none⟩, ⟨(some 6), .load false 1 (.t 5), none⟩, ⟨(some 7), .move (.t 0), none⟩, ⟨(some 8), .nilc (.t 7), none⟩, ⟨(some 9), .faddr 0 (.t 8), none⟩, ⟨(some 10), .load false 1 (.t 9), none⟩, ⟨(some 11), .len (.t 10), none⟩, ⟨(some 12), .bin .geq (.t 6) (.t 11), none⟩] [(3, 7), (3, 8)])
  (.cond (.t 12) (.seq (.reg [⟨(some 2), .move (.c (.val (.int .i64 0))), none⟩])
  (.ret)) (.skip)))
  (.seq (.reg [⟨(some 13), .move (.t 0), none⟩, ⟨(some 14), .nilc (.t 13), none⟩, ⟨(some 15), .faddr 1 (.t 14), none⟩, ⟨(some 16), .load false 1 (.t 15), none⟩, ⟨(some 17), .bin .add (.t 16) (.c (.val (.int .i64 1))), none⟩, ⟨(some 18), .nilc (.t 13), none⟩, ⟨(some 19), .faddr 1 (.t 18), none⟩, ⟨none, .store 1 (.t 19) (.t 17), none⟩])
  (.seq (.dreg [⟨(some 20), .move (.t 0), none⟩, ⟨(some 21), .nilc (.t 20), none⟩, ⟨(some 22), .faddr 0 (.t 21), none⟩, ⟨(some 23), .load false 1 (.t 22), none⟩, ⟨(some 24), .move (.t 0), none⟩, ⟨(some 25), .nilc (.t 24), none⟩, ⟨(some 26), .faddr 1 (.t 25), none⟩, ⟨(some 27), .load false 1 (.t 26), none⟩, ⟨(some 28), .bin .sub (.t 27) (.c (.val (.int .i64 1))), none⟩, ⟨(some 29), .iaddr 1 (.t 23) (.t 28), none⟩, ⟨(some 30), .load false 1 (.t 29), none⟩, ⟨(some 2), .move (.t 30), none⟩] [(3, 7)])
  (.ret))))⟩
theorem cf53_ok : cFunc Try.prog Try.f53 = some cf53 := by kernel_rfl

/-- bitcast/member.all -/
def cf54 : AF :=
  ⟨3, 1, [.tmp 2],
  .seq (.reg [⟨(some 1), .box (.t 0), none⟩, ⟨(some 2), .move (.c (.val (.bool false))), none⟩])
  (.seq (.reg [⟨(some 2), .move (.c (.val (.bool true))), none⟩])
  (.ret))⟩
theorem cf54_ok : cFunc Try.prog Try.f54 = some cf54 := by kernel_rfl

/-- slices.Delete[[]bitcast/api.Member,bitcast/api.Member] -/
def cf55 : AF :=
  ⟨33, 3, [.tmp 6],
  .seq (.reg [⟨(some 6), .move (.c (.sl 0 [] true)), none⟩])
  (.seq (.reg [⟨(some 8), .move (.t 0), none⟩, ⟨(some 9), .move (.t 1), none⟩, ⟨(some 10), .move (.t 2), none⟩, ⟨(some 11), .move (.t 0), none⟩, ⟨(some 12), .len (.t 11), none⟩, ⟨(some 13), .slice 5 (.t 8) (some (.t 9)) (some (.t 10)) (some (.t 12)), none⟩])
  (.seq (.seq (.reg [⟨(some 14), .move (.t 1), none⟩, ⟨(some 15), .move (.t 2), none⟩, ⟨(some 16), .bin .eql (.t 14) (.t 15), none⟩])
  (.cond (.t 16) (.seq (.reg [⟨(some 17), .move (.t 0), none⟩, ⟨(some 6), .move (.t 17), none⟩])
  (.ret)) (.skip)))
  (.seq (.reg [⟨(some 18), .move (.t 0), none⟩, ⟨(some 19), .len (.t 18), none⟩, ⟨(some 7), .move (.t 19), none⟩])
  (.seq (.dreg [⟨(some 20), .move (.t 0), none⟩, ⟨(some 21), .move (.t 1), none⟩, ⟨(some 22), .slice 5 (.t 20) none (some (.t 21)) none, none⟩, ⟨(some 23), .move (.t 0), none⟩, ⟨(some 24), .move (.t 2), none⟩, ⟨(some 25), .slice 5 (.t 23) (some (.t 24)) none none, none⟩, ⟨(some 26), .append 5 56 (.t 22) (.t 25), none⟩, ⟨(some 0), .move (.t 26), none⟩] [(2, 5)])
  (.seq (.reg [⟨(some 27), .move (.t 0), none⟩, ⟨(some 28), .move (.t 0), none⟩, ⟨(some 29), .len (.t 28), none⟩, ⟨(some 30), .move (.t 7), none⟩, ⟨(some 31), .slice 5 (.t 27) (some (.t 29)) (some (.t 30)) none, none⟩, ⟨none, .clear 5 ((.agg [(.val (.int .i64 0)), (.val (.int .i64 0)), (.val (.int .i64 0)), (.sl 0 [] true), (.val (.int .i64 0))])) (.t 31), none⟩])
  (.seq (.reg [⟨(some 32), .move (.t 0), none⟩, ⟨(some 6), .move (.t 32), none⟩])
  (.ret)))))))⟩
theorem cf55_ok : cFunc Try.prog Try.f55 = some cf55 := by kernel_rfl

/-- (*bitcast/bitcastflow.Tape).Bent -/
def cf56 : AF :=
  ⟨56, 2, [.cell 4 true 2],
  .seq (.reg [⟨(some 3), .box (.t 1), none⟩, ⟨(some 4), .box (.c (.agg [(.val (.int .i64 0)), (.sl 0 [] true)])), none⟩])
  (.seq (.dreg [⟨(some 6), .faddr 0 (.t 3), none⟩, ⟨(some 7), .load false 1 (.t 6), none⟩, ⟨(some 8), .lit 1 0 (.val (.int .i64 0)) [], none⟩, ⟨(some 9), .faddr 1 (.t 3), none⟩, ⟨(some 10), .load false 1 (.t 9), none⟩, ⟨(some 11), .append 1 8 (.t 8) (.t 10), none⟩, ⟨(some 12), .build [(.val (.int .i64 0)), (.sl 0 [] true)] [(0, 1, (.t 7)), (1, 1, (.t 11))], none⟩, ⟨(some 5), .box (.c (.agg [(.val (.int .i64 0)), (.sl 0 [] true)])), none⟩, ⟨none, .store 2 (.t 5) (.t 12), none⟩] [(1, 2), (1, 4), (2, 4), (1, 5), (1, 7), (2, 7), (4, 7), (5, 7)])
  (.seq (.seq (.reg [⟨(some 13), .move (.t 0), none⟩, ⟨(some 14), .call (.c (.func 24 [])) [(.t 13), (.c (.val (.int .i64 4)))], none⟩])
  (.block 0 (.seq (.reg [⟨(some 26), .bin .eql (.t 14) (.c (.val (.int .i64 0))), none⟩, ⟨(some 25), .move (.t 26), none⟩])
  (.cond (.t 25) (.reg [⟨(some 27), .move (.t 0), none⟩, ⟨(some 28), .call (.c (.func 10 [])) [(.t 27), (.c (.val (.int .i64 0))), (.c (.val (.int .i64 3)))], none⟩, ⟨(some 29), .faddr 0 (.t 5), none⟩, ⟨none, .store 1 (.t 29) (.t 28), none⟩]) (.seq (.reg [⟨(some 31), .bin .eql (.t 14) (.c (.val (.int .i64 1))), none⟩, ⟨(some 30), .move (.t 31), none⟩])
  (.cond (.t 30) (.dreg [⟨(some 32), .faddr 1 (.t 5), none⟩, ⟨(some 33), .load false 1 (.t 32), none⟩, ⟨(some 34), .move (.t 0), none⟩, ⟨(some 35), .lit 1 4 (.val (.int .i64 0)) [(0, (.c (.val (.int .i64 0)))), (1, (.c (.val (.int .i64 1)))), (2, (.c (.val (.int .i64 99)))), (3, (.c (.val (.int .i64 100))))], none⟩, ⟨(some 36), .call (.c (.func 36 [])) [(.t 34), (.t 35)], none⟩, ⟨(some 37), .lit 1 1 (.val (.int .i64 0)) [(0, (.t 36))], none⟩, ⟨(some 38), .append 1 8 (.t 33) (.t 37), none⟩, ⟨(some 39), .faddr 1 (.t 5), none⟩, ⟨none, .store 1 (.t 39) (.t 38), none⟩] [(1, 3), (1, 4), (1, 5)]) (.seq (.reg [⟨(some 41), .bin .eql (.t 14) (.c (.val (.int .i64 2))), none⟩, ⟨(some 40), .move (.t 41), none⟩])
  (.cond (.t 40) (.seq (.reg [⟨(some 42), .faddr 1 (.t 5), none⟩, ⟨(some 43), .load false 1 (.t 42), none⟩, ⟨(some 44), .len (.t 43), none⟩, ⟨(some 45), .bin .gtr (.t 44) (.c (.val (.int .i64 0))), none⟩])
  (.cond (.t 45) (.dreg [⟨(some 46), .faddr 1 (.t 5), none⟩, ⟨(some 47), .load false 1 (.t 46), none⟩, ⟨(some 48), .faddr 1 (.t 5), none⟩, ⟨(some 49), .load false 1 (.t 48), none⟩, ⟨(some 50), .iaddr 1 (.t 49) (.c (.val (.int .i64 0))), none⟩, ⟨(some 51), .load false 1 (.t 50), none⟩, ⟨(some 52), .lit 1 1 (.val (.int .i64 0)) [(0, (.t 51))], none⟩, ⟨(some 53), .append 1 8 (.t 47) (.t 52), none⟩, ⟨(some 54), .faddr 1 (.t 5), none⟩, ⟨none, .store 1 (.t 54) (.t 53), none⟩] [(1, 3), (1, 4), (1, 5), (1, 6)]) (.skip))) (.seq (.reg [⟨(some 15), .faddr 1 (.t 5), none⟩, ⟨(some 16), .load false 1 (.t 15), none⟩, ⟨(some 17), .len (.t 16), none⟩, ⟨(some 18), .bin .gtr (.t 17) (.c (.val (.int .i64 0))), none⟩])
  (.cond (.t 18) (.dreg [⟨(some 19), .faddr 1 (.t 5), none⟩, ⟨(some 20), .load false 1 (.t 19), none⟩, ⟨(some 21), .move (.t 0), none⟩, ⟨(some 22), .lit 1 3 (.val (.int .i64 0)) [(0, (.c (.val (.int .i64 (-1))))), (1, (.c (.val (.int .i64 0)))), (2, (.c (.val (.int .i64 100))))], none⟩, ⟨(some 23), .call (.c (.func 36 [])) [(.t 21), (.t 22)], none⟩, ⟨(some 24), .iaddr 1 (.t 20) (.c (.val (.int .i64 0))), none⟩, ⟨none, .store 1 (.t 24) (.t 23), none⟩] [(1, 3), (1, 4)]) (.skip)))))))))))
  (.seq (.reg [⟨(some 55), .load true 2 (.t 5), none⟩, ⟨none, .store 2 (.t 4) (.t 55), none⟩])
  (.ret))))⟩
theorem cf56_ok : cFunc Try.prog Try.f56 = some cf56 := by kernel_rfl

/-- bitcast/bitcastref22.Validate -/
def cf57 : AF :=
  ⟨47, 1, [.tmp 2],
  .seq (.reg [⟨(some 1), .box (.t 0), none⟩, ⟨(some 2), .move (.c (.val (.int .i64 0))), none⟩])
  (.seq (.seq (.reg [⟨(some 6), .faddr 0 (.t 1), none⟩, ⟨(some 7), .load false 1 (.t 6), none⟩, ⟨(some 8), .bin .neq (.t 7) (.c (.val (.int .i64 1))), none⟩, ⟨(some 9), .move (.t 8), none⟩, ⟨(some 10), .faddr 0 (.t 1), (some (9, true))⟩, ⟨(some 11), .load false 1 (.t 10), (some (9, true))⟩, ⟨(some 12), .bin .neq (.t 11) (.c (.val (.int .i64 2))), (some (9, true))⟩, ⟨(some 13), .pick (.t 9) (.t 12) (.c (.val (.bool false))), none⟩])
  (.cond (.t 13) (.seq (.reg [⟨(some 2), .move (.c (.val (.int .i64 1))), none⟩])
  (.ret)) (.skip)))
  (.seq (.seq (.reg [⟨(some 14), .faddr 1 (.t 1), none⟩, ⟨(some 15), .load false 1 (.t 14), none⟩, ⟨(some 16), .len (.t 15), none⟩, ⟨(some 17), .move (.c (.val (.int .i64 0))), none⟩])
  (.block 0 (.loop (.seq (.reg [⟨(some 18), .bin .lss (.t 17) (.t 16), none⟩])
  (.seq (.cond (.t 18) (.skip) (.exit 0))
  (.seq (.block 1 (.seq (.reg [⟨(some 19), .iaddr 1 (.t 15) (.t 17), none⟩, ⟨(some 20), .load false 1 (.t 19), none⟩, ⟨(some 4), .move (.t 20), none⟩])
  (.seq (.reg [⟨(some 21), .move (.t 4), none⟩, ⟨(some 22), .bin .lss (.t 21) (.c (.val (.int .i64 1))), none⟩, ⟨(some 23), .move (.t 22), none⟩, ⟨(some 24), .move (.t 4), (some (23, false))⟩, ⟨(some 25), .bin .gtr (.t 24) (.c (.val (.int .i64 99))), (some (23, false))⟩, ⟨(some 26), .pick (.t 23) (.c (.val (.bool true))) (.t 25), none⟩])
  (.cond (.t 26) (.seq (.reg [⟨(some 2), .move (.c (.val (.int .i64 2))), none⟩])
  (.ret)) (.skip)))))
  (.reg [⟨(some 27), .bin .add (.t 17) (.c (.val (.int .i64 1))), none⟩, ⟨(some 17), .move (.t 27), none⟩])))))))
  (.seq (.seq (.reg [⟨(some 5), .move (.c (.val (.int .i64 1))), none⟩])
  (.block 2 (.loop (.seq (.seq (.reg [⟨(some 28), .move (.t 5), none⟩, ⟨(some 29), .faddr 1 (.t 1), none⟩, ⟨(some 30), .load false 1 (.t 29), none⟩, ⟨(some 31), .len (.t 30), none⟩, ⟨(some 32), .bin .lss (.t 28) (.t 31), none⟩])
  (.cond (.t 32) (.skip) (.exit 2)))
  (.seq (.block 3 (.seq (.dreg [⟨(some 35), .faddr 1 (.t 1), none⟩, ⟨(some 36), .load false 1 (.t 35), none⟩, ⟨(some 37), .move (.t 5), none⟩, ⟨(some 38), .bin .sub (.t 37) (.c (.val (.int .i64 1))), none⟩, ⟨(some 39), .iaddr 1 (.t 36) (.t 38), none⟩, ⟨(some 40), .load false 1 (.t 39), none⟩, ⟨(some 41), .faddr 1 (.t 1), none⟩, ⟨(some 42), .load false 1 (.t 41), none⟩, ⟨(some 43), .move (.t 5), none⟩, ⟨(some 44), .iaddr 1 (.t 42) (.t 43), none⟩, ⟨(some 45), .load false 1 (.t 44), none⟩, ⟨(some 46), .bin .geq (.t 40) (.t 45), none⟩] [(1, 7), (4, 7), (5, 7), (1, 9), (4, 9), (5, 9), (1, 10), (4, 10), (5, 10)])
  (.cond (.t 46) (.seq (.reg [⟨(some 2), .move (.c (.val (.int .i64 25))), none⟩])
  (.ret)) (.skip))))
  (.reg [⟨(some 33), .move (.t 5), none⟩, ⟨(some 34), .bin .add (.t 33) (.c (.val (.int .i64 1))), none⟩, ⟨(some 5), .move (.t 34), none⟩]))))))
  (.seq (.reg [⟨(some 2), .move (.c (.val (.int .i64 0))), none⟩])
  (.ret)))))⟩
theorem cf57_ok : cFunc Try.prog Try.f57 = some cf57 := by kernel_rfl

/-- bitcast/bitcastref23.before -/
def cf58 : AF :=
  ⟨23, 3, [.tmp 6],
  .seq (.reg [⟨(some 3), .box (.t 0), none⟩, ⟨(some 6), .move (.c (.val (.bool false))), none⟩])
  (.seq (.reg [⟨(some 7), .faddr 1 (.t 3), none⟩, ⟨(some 8), .load false 1 (.t 7), none⟩, ⟨(some 9), .move (.t 1), none⟩, ⟨(some 10), .bin .lss (.t 8) (.t 9), none⟩, ⟨(some 11), .move (.t 10), none⟩, ⟨(some 12), .faddr 1 (.t 3), (some (11, false))⟩, ⟨(some 13), .load false 1 (.t 12), (some (11, false))⟩, ⟨(some 14), .move (.t 1), (some (11, false))⟩, ⟨(some 15), .bin .eql (.t 13) (.t 14), (some (11, false))⟩, ⟨(some 16), .move (.t 15), (some (11, false))⟩, ⟨(some 17), .faddr 0 (.t 3), (some (16, true))⟩, ⟨(some 18), .load false 1 (.t 17), (some (16, true))⟩, ⟨(some 19), .move (.t 2), (some (16, true))⟩, ⟨(some 20), .bin .lss (.t 18) (.t 19), (some (16, true))⟩, ⟨(some 21), .pick (.t 16) (.t 20) (.c (.val (.bool false))), (some (11, false))⟩, ⟨(some 22), .pick (.t 11) (.c (.val (.bool true))) (.t 21), none⟩, ⟨(some 6), .move (.t 22), none⟩])
  (.ret))⟩
theorem cf58_ok : cFunc Try.prog Try.f58 = some cf58 := by kernel_rfl

/-- slices.EqualFunc[[]bitcast/api.Member,[]bitcast/api.Member,bitcast/api.Member,bitcast/api.Member] -/
def cf59 : AF :=
  ⟨32, 3, [.tmp 6],
  .seq (.reg [⟨(some 6), .move (.c (.val (.bool false))), none⟩])
  (.seq (.seq (.reg [⟨(some 10), .move (.t 0), none⟩, ⟨(some 11), .len (.t 10), none⟩, ⟨(some 12), .move (.t 1), none⟩, ⟨(some 13), .len (.t 12), none⟩, ⟨(some 14), .bin .neq (.t 11) (.t 13), none⟩])
  (.cond (.t 14) (.seq (.reg [⟨(some 6), .move (.c (.val (.bool false))), none⟩])
  (.ret)) (.skip)))
  (.seq (.seq (.reg [⟨(some 15), .move (.t 0), none⟩, ⟨(some 16), .len (.t 15), none⟩, ⟨(some 17), .move (.c (.val (.int .i64 0))), none⟩])
  (.block 0 (.loop (.seq (.reg [⟨(some 18), .bin .lss (.t 17) (.t 16), none⟩])
  (.seq (.cond (.t 18) (.skip) (.exit 0))
  (.seq (.block 1 (.seq (.reg [⟨(some 19), .move (.t 17), none⟩, ⟨(some 20), .iaddr 5 (.t 15) (.t 17), none⟩, ⟨(some 21), .load true 5 (.t 20), none⟩, ⟨(some 8), .box (.c (.agg [(.val (.int .i64 0)), (.val (.int .i64 0)), (.val (.int .i64 0)), (.sl 0 [] true), (.val (.int .i64 0))])), none⟩, ⟨(some 7), .move (.t 19), none⟩, ⟨none, .store 5 (.t 8) (.t 21), none⟩])
  (.seq (.reg [⟨(some 22), .move (.t 1), none⟩, ⟨(some 23), .move (.t 7), none⟩, ⟨(some 24), .iaddr 5 (.t 22) (.t 23), none⟩, ⟨(some 25), .load true 5 (.t 24), none⟩, ⟨(some 9), .box (.c (.agg [(.val (.int .i64 0)), (.val (.int .i64 0)), (.val (.int .i64 0)), (.sl 0 [] true), (.val (.int .i64 0))])), none⟩, ⟨none, .store 5 (.t 9) (.t 25), none⟩])
  (.seq (.reg [⟨(some 26), .move (.t 2), none⟩, ⟨(some 27), .load true 5 (.t 8), none⟩, ⟨(some 28), .load true 5 (.t 9), none⟩, ⟨(some 29), .call (.t 26) [(.t 27), (.t 28)], none⟩, ⟨(some 30), .un .not (.t 29), none⟩])
  (.cond (.t 30) (.seq (.reg [⟨(some 6), .move (.c (.val (.bool false))), none⟩])
  (.ret)) (.skip))))))
  (.reg [⟨(some 31), .bin .add (.t 17) (.c (.val (.int .i64 1))), none⟩, ⟨(some 17), .move (.t 31), none⟩])))))))
  (.seq (.reg [⟨(some 6), .move (.c (.val (.bool true))), none⟩])
  (.ret))))⟩
theorem cf59_ok : cFunc Try.prog Try.f59 = some cf59 := by kernel_rfl

/-- bitcast/member.Same$1 -/
def cf60 : AF :=
  ⟨31, 2, [.tmp 4],
  .seq (.reg [⟨(some 2), .box (.t 0), none⟩, ⟨(some 3), .box (.t 1), none⟩, ⟨(some 4), .move (.c (.val (.bool false))), none⟩])
  (.seq (.reg [⟨(some 5), .faddr 0 (.t 2), none⟩, ⟨(some 6), .load false 1 (.t 5), none⟩, ⟨(some 7), .faddr 0 (.t 3), none⟩, ⟨(some 8), .load false 1 (.t 7), none⟩, ⟨(some 9), .bin .eql (.t 6) (.t 8), none⟩, ⟨(some 10), .move (.t 9), none⟩, ⟨(some 11), .faddr 1 (.t 2), (some (10, true))⟩, ⟨(some 12), .load false 1 (.t 11), (some (10, true))⟩, ⟨(some 13), .faddr 1 (.t 3), (some (10, true))⟩, ⟨(some 14), .load false 1 (.t 13), (some (10, true))⟩, ⟨(some 15), .bin .eql (.t 12) (.t 14), (some (10, true))⟩, ⟨(some 16), .pick (.t 10) (.t 15) (.c (.val (.bool false))), none⟩, ⟨(some 17), .move (.t 16), none⟩, ⟨(some 18), .faddr 4 (.t 2), (some (17, true))⟩, ⟨(some 19), .load false 1 (.t 18), (some (17, true))⟩, ⟨(some 20), .faddr 4 (.t 3), (some (17, true))⟩, ⟨(some 21), .load false 1 (.t 20), (some (17, true))⟩, ⟨(some 22), .bin .eql (.t 19) (.t 21), (some (17, true))⟩, ⟨(some 23), .pick (.t 17) (.t 22) (.c (.val (.bool false))), none⟩, ⟨(some 24), .move (.t 23), none⟩, ⟨(some 25), .faddr 2 (.t 2), (some (24, true))⟩, ⟨(some 26), .load true 2 (.t 25), (some (24, true))⟩, ⟨(some 27), .faddr 2 (.t 3), (some (24, true))⟩, ⟨(some 28), .load true 2 (.t 27), (some (24, true))⟩, ⟨(some 29), .call (.c (.func 61 [])) [(.t 26), (.t 28)], (some (24, true))⟩, ⟨(some 30), .pick (.t 24) (.t 29) (.c (.val (.bool false))), none⟩, ⟨(some 4), .move (.t 30), none⟩])
  (.ret))⟩
theorem cf60_ok : cFunc Try.prog Try.f60 = some cf60 := by kernel_rfl

/-- bitcast/filter.Same -/
def cf61 : AF :=
  ⟨17, 2, [.tmp 4],
  .seq (.reg [⟨(some 2), .box (.t 0), none⟩, ⟨(some 3), .box (.t 1), none⟩, ⟨(some 4), .move (.c (.val (.bool false))), none⟩])
  (.seq (.reg [⟨(some 5), .faddr 0 (.t 2), none⟩, ⟨(some 6), .load false 1 (.t 5), none⟩, ⟨(some 7), .faddr 0 (.t 3), none⟩, ⟨(some 8), .load false 1 (.t 7), none⟩, ⟨(some 9), .bin .eql (.t 6) (.t 8), none⟩, ⟨(some 10), .move (.t 9), none⟩, ⟨(some 11), .faddr 1 (.t 2), (some (10, true))⟩, ⟨(some 12), .load false 1 (.t 11), (some (10, true))⟩, ⟨(some 13), .faddr 1 (.t 3), (some (10, true))⟩, ⟨(some 14), .load false 1 (.t 13), (some (10, true))⟩, ⟨(some 15), .call (.c (.func 71 [])) [(.t 12), (.t 14)], (some (10, true))⟩, ⟨(some 16), .pick (.t 10) (.t 15) (.c (.val (.bool false))), none⟩, ⟨(some 4), .move (.t 16), none⟩])
  (.ret))⟩
theorem cf61_ok : cFunc Try.prog Try.f61 = some cf61 := by kernel_rfl

/-- slices.Compact[[]int,int] -/
def cf62 : AF :=
  ⟨61, 1, [.tmp 2],
  .seq (.reg [⟨(some 2), .move (.c (.sl 0 [] true)), none⟩])
  (.seq (.seq (.reg [⟨(some 6), .move (.t 0), none⟩, ⟨(some 7), .len (.t 6), none⟩, ⟨(some 8), .bin .lss (.t 7) (.c (.val (.int .i64 2))), none⟩])
  (.cond (.t 8) (.seq (.reg [⟨(some 9), .move (.t 0), none⟩, ⟨(some 2), .move (.t 9), none⟩])
  (.ret)) (.skip)))
  (.seq (.seq (.reg [⟨(some 3), .move (.c (.val (.int .i64 1))), none⟩])
  (.block 0 (.loop (.seq (.seq (.reg [⟨(some 10), .move (.t 3), none⟩, ⟨(some 11), .move (.t 0), none⟩, ⟨(some 12), .len (.t 11), none⟩, ⟨(some 13), .bin .lss (.t 10) (.t 12), none⟩])
  (.cond (.t 13) (.skip) (.exit 0)))
  (.seq (.block 1 (.seq (.dreg [⟨(some 16), .move (.t 0), none⟩, ⟨(some 17), .move (.t 3), none⟩, ⟨(some 18), .iaddr 1 (.t 16) (.t 17), none⟩, ⟨(some 19), .load false 1 (.t 18), none⟩, ⟨(some 20), .move (.t 0), none⟩, ⟨(some 21), .move (.t 3), none⟩, ⟨(some 22), .bin .sub (.t 21) (.c (.val (.int .i64 1))), none⟩, ⟨(some 23), .iaddr 1 (.t 20) (.t 22), none⟩, ⟨(some 24), .load false 1 (.t 23), none⟩, ⟨(some 25), .bin .eql (.t 19) (.t 24), none⟩] [(2, 7), (3, 7), (2, 8), (3, 8)])
  (.cond (.t 25) (.seq (.reg [⟨(some 26), .move (.t 0), none⟩, ⟨(some 27), .move (.t 3), none⟩, ⟨(some 28), .slice 1 (.t 26) (some (.t 27)) none none, none⟩, ⟨(some 4), .move (.t 28), none⟩])
  (.seq (.seq (.reg [⟨(some 5), .move (.c (.val (.int .i64 1))), none⟩])
  (.block 2 (.loop (.seq (.seq (.reg [⟨(some 29), .move (.t 5), none⟩, ⟨(some 30), .move (.t 4), none⟩, ⟨(some 31), .len (.t 30), none⟩, ⟨(some 32), .bin .lss (.t 29) (.t 31), none⟩])
  (.cond (.t 32) (.skip) (.exit 2)))
  (.seq (.block 3 (.seq (.dreg [⟨(some 35), .move (.t 4), none⟩, ⟨(some 36), .move (.t 5), none⟩, ⟨(some 37), .iaddr 1 (.t 35) (.t 36), none⟩, ⟨(some 38), .load false 1 (.t 37), none⟩, ⟨(some 39), .move (.t 4), none⟩, ⟨(some 40), .move (.t 5), none⟩, ⟨(some 41), .bin .sub (.t 40) (.c (.val (.int .i64 1))), none⟩, ⟨(some 42), .iaddr 1 (.t 39) (.t 41), none⟩, ⟨(some 43), .load false 1 (.t 42), none⟩, ⟨(some 44), .bin .neq (.t 38) (.t 43), none⟩] [(2, 7), (3, 7), (2, 8), (3, 8)])
  (.cond (.t 44) (.seq (.reg [⟨(some 45), .move (.t 0), none⟩, ⟨(some 46), .move (.t 3), none⟩, ⟨(some 47), .move (.t 4), none⟩, ⟨(some 48), .move (.t 5), none⟩, ⟨(some 49), .iaddr 1 (.t 47) (.t 48), none⟩, ⟨(some 50), .load false 1 (.t 49), none⟩, ⟨(some 51), .iaddr 1 (.t 45) (.t 46), none⟩, ⟨none, .store 1 (.t 51) (.t 50), none⟩])
  (.reg [⟨(some 52), .move (.t 3), none⟩, ⟨(some 53), .bin .add (.t 52) (.c (.val (.int .i64 1))), none⟩, ⟨(some 3), .move (.t 53), none⟩])) (.skip))))
  (.reg [⟨(some 33), .move (.t 5), none⟩, ⟨(some 34), .bin .add (.t 33) (.c (.val (.int .i64 1))), none⟩, ⟨(some 5), .move (.t 34), none⟩]))))))
  (.seq (.reg [⟨(some 54), .move (.t 0), none⟩, ⟨(some 55), .move (.t 3), none⟩, ⟨(some 56), .slice 1 (.t 54) (some (.t 55)) none none, none⟩, ⟨none, .clear 1 ((.val (.int .i64 0))) (.t 56), none⟩])
  (.seq (.reg [⟨(some 57), .move (.t 0), none⟩, ⟨(some 58), .move (.t 3), none⟩, ⟨(some 59), .slice 1 (.t 57) none (some (.t 58)) none, none⟩, ⟨(some 2), .move (.t 59), none⟩])
  (.ret))))) (.skip))))
  (.reg [⟨(some 14), .move (.t 3), none⟩, ⟨(some 15), .bin .add (.t 14) (.c (.val (.int .i64 1))), none⟩, ⟨(some 3), .move (.t 15), none⟩]))))))
  (.seq (.reg [⟨(some 60), .move (.t 0), none⟩, ⟨(some 2), .move (.t 60), none⟩])
  (.ret))))⟩
theorem cf62_ok : cFunc Try.prog Try.f62 = some cf62 := by kernel_rfl

/-- bitcast/bitcastflow.Put -/
def cf63 : AF :=
  ⟨46, 2, [.tmp 4],
  .seq (.reg [⟨(some 4), .move (.c (.sl 0 [] true)), none⟩])
  (.seq (.reg [⟨(some 5), .move (.c (.val (.int .i64 0))), none⟩])
  (.seq (.block 0 (.loop (.seq (.seq (.reg [⟨(some 7), .move (.t 5), none⟩, ⟨(some 8), .move (.t 0), none⟩, ⟨(some 9), .len (.t 8), none⟩, ⟨(some 10), .bin .lss (.t 7) (.t 9), none⟩, ⟨(some 11), .move (.t 10), none⟩, ⟨(some 12), .move (.t 0), (some (11, true))⟩, ⟨(some 13), .move (.t 5), (some (11, true))⟩, ⟨(some 14), .iaddr 1 (.t 12) (.t 13), (some (11, true))⟩, ⟨(some 15), .load false 1 (.t 14), (some (11, true))⟩, ⟨(some 16), .move (.t 1), (some (11, true))⟩, ⟨(some 17), .bin .lss (.t 15) (.t 16), (some (11, true))⟩, ⟨(some 18), .pick (.t 11) (.t 17) (.c (.val (.bool false))), none⟩])
  (.cond (.t 18) (.skip) (.exit 0)))
  (.block 1 (.reg [⟨(some 19), .move (.t 5), none⟩, ⟨(some 20), .bin .add (.t 19) (.c (.val (.int .i64 1))), none⟩, ⟨(some 5), .move (.t 20), none⟩])))))
  (.seq (.seq (.reg [⟨(some 21), .move (.t 5), none⟩, ⟨(some 22), .move (.t 0), none⟩, ⟨(some 23), .len (.t 22), none⟩, ⟨(some 24), .bin .lss (.t 21) (.t 23), none⟩, ⟨(some 25), .move (.t 24), none⟩, ⟨(some 26), .move (.t 0), (some (25, true))⟩, ⟨(some 27), .move (.t 5), (some (25, true))⟩, ⟨(some 28), .iaddr 1 (.t 26) (.t 27), (some (25, true))⟩, ⟨(some 29), .load false 1 (.t 28), (some (25, true))⟩, ⟨(some 30), .move (.t 1), (some (25, true))⟩, ⟨(some 31), .bin .eql (.t 29) (.t 30), (some (25, true))⟩, ⟨(some 32), .pick (.t 25) (.t 31) (.c (.val (.bool false))), none⟩])
  (.cond (.t 32) (.seq (.reg [⟨(some 33), .move (.t 0), none⟩, ⟨(some 4), .move (.t 33), none⟩])
  (.ret)) (.skip)))
  (.seq (.reg [⟨(some 34), .move (.t 1), none⟩, ⟨(some 35), .lit 1 1 (.val (.int .i64 0)) [(0, (.t 34))], none⟩, ⟨(some 36), .move (.t 0), none⟩, ⟨(some 37), .move (.t 5), none⟩, ⟨(some 38), .slice 1 (.t 36) (some (.t 37)) none none, none⟩, ⟨(some 39), .append 1 8 (.t 35) (.t 38), none⟩, ⟨(some 6), .move (.t 39), none⟩])
  (.seq (.reg [⟨(some 40), .move (.t 0), none⟩, ⟨(some 41), .move (.t 5), none⟩, ⟨(some 42), .move (.t 5), none⟩, ⟨(some 43), .slice 1 (.t 40) none (some (.t 41)) (some (.t 42)), none⟩, ⟨(some 44), .move (.t 6), none⟩, ⟨(some 45), .append 1 8 (.t 43) (.t 44), none⟩, ⟨(some 4), .move (.t 45), none⟩])
  (.ret))))))⟩
theorem cf63_ok : cFunc Try.prog Try.f63 = some cf63 := by kernel_rfl

/-- bitcast/bitcastref23.without -/
def cf64 : AF :=
  ⟨38, 3, [.cell 6 true 2],
  .seq (.reg [⟨(some 3), .box (.t 0), none⟩, ⟨(some 6), .box (.c (.agg [(.val (.int .i64 0)), (.sl 0 [] true)])), none⟩])
  (.seq (.reg [⟨(some 10), .faddr 0 (.t 3), none⟩, ⟨(some 11), .load false 1 (.t 10), none⟩, ⟨(some 12), .build [(.val (.int .i64 0)), (.sl 0 [] true)] [(0, 1, (.t 11))], none⟩, ⟨(some 7), .box (.c (.agg [(.val (.int .i64 0)), (.sl 0 [] true)])), none⟩, ⟨none, .store 2 (.t 7) (.t 12), none⟩])
  (.seq (.seq (.reg [⟨(some 13), .faddr 1 (.t 3), none⟩, ⟨(some 14), .load false 1 (.t 13), none⟩, ⟨(some 15), .len (.t 14), none⟩, ⟨(some 16), .move (.c (.val (.int .i64 0))), none⟩])
  (.block 0 (.loop (.seq (.reg [⟨(some 17), .bin .lss (.t 16) (.t 15), none⟩])
  (.seq (.cond (.t 17) (.skip) (.exit 0))
  (.seq (.block 1 (.seq (.reg [⟨(some 18), .iaddr 5 (.t 14) (.t 16), none⟩, ⟨(some 19), .load true 5 (.t 18), none⟩, ⟨(some 9), .box (.c (.agg [(.val (.int .i64 0)), (.val (.int .i64 0)), (.val (.int .i64 0)), (.sl 0 [] true), (.val (.int .i64 0))])), none⟩, ⟨none, .store 5 (.t 9) (.t 19), none⟩])
  (.seq (.reg [⟨(some 20), .faddr 0 (.t 9), none⟩, ⟨(some 21), .load false 1 (.t 20), none⟩, ⟨(some 22), .move (.t 1), none⟩, ⟨(some 23), .bin .neq (.t 21) (.t 22), none⟩, ⟨(some 24), .move (.t 23), none⟩, ⟨(some 25), .faddr 1 (.t 9), (some (24, false))⟩, ⟨(some 26), .load false 1 (.t 25), (some (24, false))⟩, ⟨(some 27), .move (.t 2), (some (24, false))⟩, ⟨(some 28), .bin .neq (.t 26) (.t 27), (some (24, false))⟩, ⟨(some 29), .pick (.t 24) (.c (.val (.bool true))) (.t 28), none⟩])
  (.cond (.t 29) (.reg [⟨(some 30), .faddr 1 (.t 7), none⟩, ⟨(some 31), .load false 1 (.t 30), none⟩, ⟨(some 32), .load true 5 (.t 9), none⟩, ⟨(some 33), .lit 5 1 (.agg [(.val (.int .i64 0)), (.val (.int .i64 0)), (.val (.int .i64 0)), (.sl 0 [] true), (.val (.int .i64 0))]) [(0, (.t 32))], none⟩, ⟨(some 34), .append 5 56 (.t 31) (.t 33), none⟩, ⟨(some 35), .faddr 1 (.t 7), none⟩, ⟨none, .store 1 (.t 35) (.t 34), none⟩]) (.skip)))))
  (.reg [⟨(some 36), .bin .add (.t 16) (.c (.val (.int .i64 1))), none⟩, ⟨(some 16), .move (.t 36), none⟩])))))))
  (.seq (.reg [⟨(some 37), .load true 2 (.t 7), none⟩, ⟨none, .store 2 (.t 6) (.t 37), none⟩])
  (.ret))))⟩
theorem cf64_ok : cFunc Try.prog Try.f64 = some cf64 := by kernel_rfl

/-- bitcast/bitcastref23.with -/
def cf65 : AF :=
  ⟨52, 2, [.cell 4 true 2],
  .seq (.reg [⟨(some 2), .box (.t 0), none⟩, ⟨(some 3), .box (.t 1), none⟩, ⟨(some 4), .box (.c (.agg [(.val (.int .i64 0)), (.sl 0 [] true)])), none⟩])
  (.seq (.reg [⟨(some 9), .faddr 0 (.t 2), none⟩, ⟨(some 10), .load false 1 (.t 9), none⟩, ⟨(some 11), .build [(.val (.int .i64 0)), (.sl 0 [] true)] [(0, 1, (.t 10))], none⟩, ⟨(some 5), .box (.c (.agg [(.val (.int .i64 0)), (.sl 0 [] true)])), none⟩, ⟨none, .store 2 (.t 5) (.t 11), none⟩])
  (.seq (.reg [⟨(some 6), .move (.c (.val (.bool false))), none⟩])
  (.seq (.seq (.reg [⟨(some 12), .faddr 1 (.t 2), none⟩, ⟨(some 13), .load false 1 (.t 12), none⟩, ⟨(some 14), .len (.t 13), none⟩, ⟨(some 15), .move (.c (.val (.int .i64 0))), none⟩])
  (.block 0 (.loop (.seq (.reg [⟨(some 16), .bin .lss (.t 15) (.t 14), none⟩])
  (.seq (.cond (.t 16) (.skip) (.exit 0))
  (.seq (.block 1 (.seq (.reg [⟨(some 17), .iaddr 5 (.t 13) (.t 15), none⟩, ⟨(some 18), .load true 5 (.t 17), none⟩, ⟨(some 8), .box (.c (.agg [(.val (.int .i64 0)), (.val (.int .i64 0)), (.val (.int .i64 0)), (.sl 0 [] true), (.val (.int .i64 0))])), none⟩, ⟨none, .store 5 (.t 8) (.t 18), none⟩])
  (.seq (.seq (.reg [⟨(some 19), .move (.t 6), none⟩, ⟨(some 20), .un .not (.t 19), none⟩, ⟨(some 21), .move (.t 20), none⟩, ⟨(some 22), .load true 5 (.t 8), (some (21, true))⟩, ⟨(some 23), .faddr 1 (.t 3), (some (21, true))⟩, ⟨(some 24), .load false 1 (.t 23), (some (21, true))⟩, ⟨(some 25), .faddr 0 (.t 3), (some (21, true))⟩, ⟨(some 26), .load false 1 (.t 25), (some (21, true))⟩, ⟨(some 27), .call (.c (.func 58 [])) [(.t 22), (.t 24), (.t 26)], (some (21, true))⟩, ⟨(some 28), .un .not (.t 27), (some (21, true))⟩, ⟨(some 29), .pick (.t 21) (.t 28) (.c (.val (.bool false))), none⟩])
  (.cond (.t 29) (.seq (.reg [⟨(some 30), .faddr 1 (.t 5), none⟩, ⟨(some 31), .load false 1 (.t 30), none⟩, ⟨(some 32), .load true 5 (.t 3), none⟩, ⟨(some 33), .lit 5 1 (.agg [(.val (.int .i64 0)), (.val (.int .i64 0)), (.val (.int .i64 0)), (.sl 0 [] true), (.val (.int .i64 0))]) [(0, (.t 32))], none⟩, ⟨(some 34), .append 5 56 (.t 31) (.t 33), none⟩, ⟨(some 35), .faddr 1 (.t 5), none⟩, ⟨none, .store 1 (.t 35) (.t 34), none⟩])
  (.reg [⟨(some 6), .move (.c (.val (.bool true))), none⟩])) (.skip)))
  (.reg [⟨(some 36), .faddr 1 (.t 5), none⟩, ⟨(some 37), .load false 1 (.t 36), none⟩, ⟨(some 38), .load true 5 (.t 8), none⟩, ⟨(some 39), .lit 5 1 (.agg [(.val (.int .i64 0)), (.val (.int .i64 0)), (.val (.int .i64 0)), (.sl 0 [] true), (.val (.int .i64 0))]) [(0, (.t 38))], none⟩, ⟨(some 40), .append 5 56 (.t 37) (.t 39), none⟩, ⟨(some 41), .faddr 1 (.t 5), none⟩, ⟨none, .store 1 (.t 41) (.t 40), none⟩]))))
  (.reg [⟨(some 42), .bin .add (.t 15) (.c (.val (.int .i64 1))), none⟩, ⟨(some 15), .move (.t 42), none⟩])))))))
  (.seq (.seq (.reg [⟨(some 43), .move (.t 6), none⟩, ⟨(some 44), .un .not (.t 43), none⟩])
  (.cond (.t 44) (.reg [⟨(some 45), .faddr 1 (.t 5), none⟩, ⟨(some 46), .load false 1 (.t 45), none⟩, ⟨(some 47), .load true 5 (.t 3), none⟩, ⟨(some 48), .lit 5 1 (.agg [(.val (.int .i64 0)), (.val (.int .i64 0)), (.val (.int .i64 0)), (.sl 0 [] true), (.val (.int .i64 0))]) [(0, (.t 47))], none⟩, ⟨(some 49), .append 5 56 (.t 46) (.t 48), none⟩, ⟨(some 50), .faddr 1 (.t 5), none⟩, ⟨none, .store 1 (.t 50) (.t 49), none⟩]) (.skip)))
  (.seq (.reg [⟨(some 51), .load true 2 (.t 5), none⟩, ⟨none, .store 2 (.t 4) (.t 51), none⟩])
  (.ret))))))⟩
theorem cf65_ok : cFunc Try.prog Try.f65 = some cf65 := by kernel_rfl

/-- cmp.Or[int] -/
def cf66 : AF :=
  ⟨18, 1, [.tmp 2],
  .seq (.reg [⟨(some 2), .move (.c (.val (.int .i64 0))), none⟩])
  (.seq (.reg [⟨(some 3), .move (.c (.val (.int .i64 0))), none⟩])
  (.seq (.seq (.reg [⟨(some 6), .move (.t 0), none⟩, ⟨(some 7), .len (.t 6), none⟩, ⟨(some 8), .move (.c (.val (.int .i64 0))), none⟩])
  (.block 0 (.loop (.seq (.reg [⟨(some 9), .bin .lss (.t 8) (.t 7), none⟩])
  (.seq (.cond (.t 9) (.skip) (.exit 0))
  (.seq (.block 1 (.seq (.reg [⟨(some 10), .iaddr 1 (.t 6) (.t 8), none⟩, ⟨(some 11), .load false 1 (.t 10), none⟩, ⟨(some 5), .move (.t 11), none⟩])
  (.seq (.reg [⟨(some 12), .move (.t 5), none⟩, ⟨(some 13), .move (.t 3), none⟩, ⟨(some 14), .bin .neq (.t 12) (.t 13), none⟩])
  (.cond (.t 14) (.seq (.reg [⟨(some 15), .move (.t 5), none⟩, ⟨(some 2), .move (.t 15), none⟩])
  (.ret)) (.skip)))))
  (.reg [⟨(some 16), .bin .add (.t 8) (.c (.val (.int .i64 1))), none⟩, ⟨(some 8), .move (.t 16), none⟩])))))))
  (.seq (.reg [⟨(some 17), .move (.t 3), none⟩, ⟨(some 2), .move (.t 17), none⟩])
  (.ret))))⟩
theorem cf66_ok : cFunc Try.prog Try.f66 = some cf66 := by kernel_rfl

/-- cmp.Compare[int] -/
def cf67 : AF :=
  ⟨20, 2, [.tmp 4],
  .seq (.reg [⟨(some 4), .move (.c (.val (.int .i64 0))), none⟩])
  (.seq (.reg [⟨(some 7), .move (.t 0), none⟩, ⟨(some 8), .call (.c (.func 72 [])) [(.t 7)], none⟩, ⟨(some 5), .move (.t 8), none⟩])
  (.seq (.reg [⟨(some 9), .move (.t 1), none⟩, ⟨(some 10), .call (.c (.func 72 [])) [(.t 9)], none⟩, ⟨(some 6), .move (.t 10), none⟩])
  (.seq (.seq (.reg [⟨(some 11), .move (.t 5), none⟩])
  (.cond (.t 11) (.seq (.seq (.reg [⟨(some 12), .move (.t 6), none⟩])
  (.cond (.t 12) (.seq (.reg [⟨(some 4), .move (.c (.val (.int .i64 0))), none⟩])
  (.ret)) (.skip)))
  (.seq (.reg [⟨(some 4), .move (.c (.val (.int .i64 (-1)))), none⟩])
  (.ret))) (.skip)))
  (.seq (.seq (.reg [⟨(some 13), .move (.t 6), none⟩])
  (.cond (.t 13) (.seq (.reg [⟨(some 4), .move (.c (.val (.int .i64 1))), none⟩])
  (.ret)) (.skip)))
  (.seq (.seq (.reg [⟨(some 14), .move (.t 0), none⟩, ⟨(some 15), .move (.t 1), none⟩, ⟨(some 16), .bin .lss (.t 14) (.t 15), none⟩])
  (.cond (.t 16) (.seq (.reg [⟨(some 4), .move (.c (.val (.int .i64 (-1)))), none⟩])
  (.ret)) (.skip)))
  (.seq (.seq (.reg [⟨(some 17), .move (.t 0), none⟩, ⟨(some 18), .move (.t 1), none⟩, ⟨(some 19), .bin .gtr (.t 17) (.t 18), none⟩])
  (.cond (.t 19) (.seq (.reg [⟨(some 4), .move (.c (.val (.int .i64 1))), none⟩])
  (.ret)) (.skip)))
  (.seq (.reg [⟨(some 4), .move (.c (.val (.int .i64 0))), none⟩])
  (.ret))))))))⟩
theorem cf67_ok : cFunc Try.prog Try.f67 = some cf67 := by kernel_rfl

/-- slices.rotateRight[bitcast/api.Member] -/
def cf69 : AF :=
  ⟨10, 2, [],
  .reg [⟨(some 4), .move (.t 0), none⟩, ⟨(some 5), .move (.t 0), none⟩, ⟨(some 6), .len (.t 5), none⟩, ⟨(some 7), .move (.t 1), none⟩, ⟨(some 8), .bin .sub (.t 6) (.t 7), none⟩, ⟨(some 9), .call (.c (.func 73 [])) [(.t 4), (.t 8)], none⟩]⟩
theorem cf69_ok : cFunc Try.prog Try.f69 = some cf69 := by kernel_rfl

/-- slices.Clone[[]int,int] -/
def cf70 : AF :=
  ⟨8, 1, [.tmp 2],
  .seq (.reg [⟨(some 2), .move (.c (.sl 0 [] true)), none⟩])
  (.seq (.seq (.reg [⟨(some 3), .move (.t 0), none⟩, ⟨(some 4), .isNil false false (.t 3), none⟩])
  (.cond (.t 4) (.seq (.reg [⟨(some 2), .move (.c (.sl 0 [] true)), none⟩])
  (.ret)) (.skip)))
  (.seq (.reg [⟨(some 5), .lit 1 0 (.val (.int .i64 0)) [], none⟩, ⟨(some 6), .move (.t 0), none⟩, ⟨(some 7), .append 1 8 (.t 5) (.t 6), none⟩, ⟨(some 2), .move (.t 7), none⟩])
  (.ret)))⟩
theorem cf70_ok : cFunc Try.prog Try.f70 = some cf70 := by kernel_rfl

/-- slices.Equal[[]int,int] -/
def cf71 : AF :=
  ⟨26, 2, [.tmp 4],
  .seq (.reg [⟨(some 4), .move (.c (.val (.bool false))), none⟩])
  (.seq (.seq (.reg [⟨(some 6), .move (.t 0), none⟩, ⟨(some 7), .len (.t 6), none⟩, ⟨(some 8), .move (.t 1), none⟩, ⟨(some 9), .len (.t 8), none⟩, ⟨(some 10), .bin .neq (.t 7) (.t 9), none⟩])
  (.cond (.t 10) (.seq (.reg [⟨(some 4), .move (.c (.val (.bool false))), none⟩])
  (.ret)) (.skip)))
  (.seq (.seq (.reg [⟨(some 11), .move (.t 0), none⟩, ⟨(some 12), .len (.t 11), none⟩, ⟨(some 13), .move (.c (.val (.int .i64 0))), none⟩])
  (.block 0 (.loop (.seq (.reg [⟨(some 14), .bin .lss (.t 13) (.t 12), none⟩])
  (.seq (.cond (.t 14) (.skip) (.exit 0))
  (.seq (.block 1 (.seq (.reg [⟨(some 15), .move (.t 13), none⟩, ⟨(some 5), .move (.t 15), none⟩])
  (.seq (.dreg [⟨(some 16), .move (.t 0), none⟩, ⟨(some 17), .move (.t 5), none⟩, ⟨(some 18), .iaddr 1 (.t 16) (.t 17), none⟩, ⟨(some 19), .load false 1 (.t 18), none⟩, ⟨(some 20), .move (.t 1), none⟩, ⟨(some 21), .move (.t 5), none⟩, ⟨(some 22), .iaddr 1 (.t 20) (.t 21), none⟩, ⟨(some 23), .load false 1 (.t 22), none⟩, ⟨(some 24), .bin .neq (.t 19) (.t 23), none⟩] [(2, 6), (3, 6), (2, 7), (3, 7)])
  (.cond (.t 24) (.seq (.reg [⟨(some 4), .move (.c (.val (.bool false))), none⟩])
  (.ret)) (.skip)))))
  (.reg [⟨(some 25), .bin .add (.t 13) (.c (.val (.int .i64 1))), none⟩, ⟨(some 13), .move (.t 25), none⟩])))))))
  (.seq (.reg [⟨(some 4), .move (.c (.val (.bool true))), none⟩])
  (.ret))))⟩
theorem cf71_ok : cFunc Try.prog Try.f71 = some cf71 := by kernel_rfl

/-- cmp.isNaN[int] -/
def cf72 : AF :=
  ⟨6, 1, [.tmp 2],
  .seq (.reg [⟨(some 2), .move (.c (.val (.bool false))), none⟩])
  (.seq (.reg [⟨(some 3), .move (.t 0), none⟩, ⟨(some 4), .move (.t 0), none⟩, ⟨(some 5), .bin .neq (.t 3) (.t 4), none⟩, ⟨(some 2), .move (.t 5), none⟩])
  (.ret))⟩
theorem cf72_ok : cFunc Try.prog Try.f72 = some cf72 := by kernel_rfl

/-- slices.rotateLeft[bitcast/api.Member] -/
def cf73 : AF :=
  ⟨14, 2, [],
  .seq (.reg [⟨(some 4), .move (.t 0), none⟩, ⟨(some 5), .move (.t 1), none⟩, ⟨(some 6), .slice 5 (.t 4) none (some (.t 5)) none, none⟩, ⟨(some 7), .call (.c (.func 74 [])) [(.t 6)], none⟩])
  (.seq (.reg [⟨(some 8), .move (.t 0), none⟩, ⟨(some 9), .move (.t 1), none⟩, ⟨(some 10), .slice 5 (.t 8) (some (.t 9)) none none, none⟩, ⟨(some 11), .call (.c (.func 74 [])) [(.t 10)], none⟩])
  (.reg [⟨(some 12), .move (.t 0), none⟩, ⟨(some 13), .call (.c (.func 74 [])) [(.t 12)], none⟩]))⟩
theorem cf73_ok : cFunc Try.prog Try.f73 = some cf73 := by kernel_rfl

/-- slices.Reverse[[]bitcast/api.Member,bitcast/api.Member] -/
def cf74 : AF :=
  ⟨28, 1, [],
  .seq (.reg [⟨(some 4), .move (.t 0), none⟩, ⟨(some 5), .len (.t 4), none⟩, ⟨(some 6), .bin .sub (.t 5) (.c (.val (.int .i64 1))), none⟩, ⟨(some 2), .move (.c (.val (.int .i64 0))), none⟩, ⟨(some 3), .move (.t 6), none⟩])
  (.block 0 (.loop (.seq (.seq (.reg [⟨(some 7), .move (.t 2), none⟩, ⟨(some 8), .move (.t 3), none⟩, ⟨(some 9), .bin .lss (.t 7) (.t 8), none⟩])
  (.cond (.t 9) (.skip) (.exit 0)))
  (.seq (.block 1 (.dreg [⟨(some 14), .move (.t 0), none⟩, ⟨(some 15), .move (.t 2), none⟩, ⟨(some 16), .move (.t 0), none⟩, ⟨(some 17), .move (.t 3), none⟩, ⟨(some 18), .move (.t 0), none⟩, ⟨(some 19), .move (.t 3), none⟩, ⟨(some 20), .iaddr 5 (.t 18) (.t 19), none⟩, ⟨(some 21), .load true 5 (.t 20), none⟩, ⟨(some 22), .move (.t 0), none⟩, ⟨(some 23), .move (.t 2), none⟩, ⟨(some 24), .iaddr 5 (.t 22) (.t 23), none⟩, ⟨(some 25), .load true 5 (.t 24), none⟩, ⟨(some 26), .iaddr 5 (.t 14) (.t 15), none⟩, ⟨none, .store 5 (.t 26) (.t 21), none⟩, ⟨(some 27), .iaddr 5 (.t 16) (.t 17), none⟩, ⟨none, .store 5 (.t 27) (.t 25), none⟩] [(6, 10), (7, 10), (6, 11), (7, 11)]))
  (.reg [⟨(some 10), .move (.t 2), none⟩, ⟨(some 11), .bin .add (.t 10) (.c (.val (.int .i64 1))), none⟩, ⟨(some 12), .move (.t 3), none⟩, ⟨(some 13), .bin .sub (.t 12) (.c (.val (.int .i64 1))), none⟩, ⟨(some 2), .move (.t 11), none⟩, ⟨(some 3), .move (.t 13), none⟩])))))⟩
theorem cf74_ok : cFunc Try.prog Try.f74 = some cf74 := by kernel_rfl

end Go.Proofs.Ytaboolnmkfenlaa
