/- Texts,joined. -/
import Derived.Test.YtololahjocfbeaaGreatD07
namespace Go.Proofs.YtololahjocfbeaaGreat
open Go Go.Sy
def pl16 : List (Nat × Plan):=[(4,[(0,[],none),(1,[0],none),(2,[0,1],none),(3,[],none),(4,[],none),(5,[],none)])]
def pl28 : List (Nat × Plan):=[(7,[(1,[],none),(2,[],none),(3,[],none),(4,[],none),(5,[1,2,3,4],none),(6,[1,2,3,4],none),(7,[],some [59,61]),(0,[1,2,3,4,5,6,7],none),(8,[],none),(9,[],none),(10,[],some [64])])]
def pl30 : List (Nat × Plan):=[(2,[(0,[],none),(1,[0],none),(2,[0],none),(3,[0,1,2],none),(4,[0,1,2],none),(5,[0],none),(6,[],some [7,12]),(7,[0,1,2,3,4,5,6],none),(8,[0,1,2,3,4,5,6],none),(9,[0,1,2,3,4,5,6,7,8],none),(10,[0,1,2,3,4,5,6,7,8],none),(11,[0,1,2,3,4,5,6],none),(12,[],some [13,18]),(13,[],none),(14,[],none),(15,[],none),(16,[],none)])]
def pl33 : List (Nat × Plan):=[(3,[(0,[],none),(1,[],none),(2,[],none),(3,[],none),(4,[],none),(5,[0,1,2,3,4],none),(6,[0,1,2,3,4],none),(7,[0,1,2,3,4],none),(8,[0,1,2,3,4],none),(9,[0,1,2,3,4],none),(10,[0,1,2,3,4,5,6,7,8,9],none),(11,[0,1,2,3,4],none),(12,[],none),(13,[],none),(14,[],none),(16,[0,1,2,3,4,5,6,7,8,9,10,11,12,13,14],none),(17,[],some [5]),(15,[14,16,17],none),(18,[],none)])]
def pl45 : List (Nat × Plan):=[(3,[(0,[],none),(2,[],some [4]),(1,[0,2],none),(3,[],some [5])])]
def pl47 : List (Nat × Plan):=[(4,[(0,[],none),(1,[0],none),(2,[],none),(3,[0,1,2],none),(4,[0,1,2,3],none),(5,[],none),(6,[],none),(7,[],none),(8,[7],none),(9,[7,8],none),(10,[],none),(11,[],none),(12,[],none)])]
def pl48 : List (Nat × Plan):=[(4,[(0,[],none),(1,[0],none),(2,[0,1],none),(3,[],none),(4,[0,1,2,3],none),(5,[0,1,2,3,4],none),(6,[0,1,2,3,4,5],none),(7,[],none),(8,[],none),(9,[],none),(10,[],none)])]
def pl49 : List (Nat × Plan):=[(1,[(0,[],none),(1,[],none),(2,[],none),(3,[],none),(4,[],none),(5,[],none),(6,[4,5],none),(7,[4,5],none),(8,[4,5],none),(9,[],none),(10,[],none),(11,[],none),(12,[],none),(13,[],none),(14,[],none),(15,[12,13,14],none),(16,[12,13,14],none),(17,[12,13,14],none),(18,[],none),(19,[],none)])]
def pl51 : List (Nat × Plan):=[(1,[(0,[],none),(1,[0],none),(2,[0,1],none),(3,[0,1],none),(4,[0,1],none),(5,[],none),(6,[],none)])]
def pl66 : List (Nat × Plan):=[(5,[(0,[],none),(1,[0],none),(2,[0,1],none),(3,[0,1,2],none),(4,[0,1],none),(5,[0,1],none),(6,[0,1,2,3,4,5],none),(7,[0,1,2,3,4,5],none),(8,[0,1,2,3,4,5],none),(9,[0,1,2,3,4,5],none),(10,[0,1],none),(11,[0,1],none),(12,[],some [22,23,33])])]
def pl71 : List (Nat × Plan):=[(7,[(0,[],none),(1,[],none),(2,[],none),(3,[],none),(4,[],none),(5,[0,1,2,3,4],none),(6,[0,1,2,3,4],none),(7,[],none),(8,[0,1,2,3,4,5,6,7],none),(9,[],some [12])]),(14,[(0,[],none),(1,[],none),(2,[],none),(3,[0,1,2],none),(4,[0,1,2],none),(5,[0,1,2],none),(6,[0,1,2],none),(7,[],none),(8,[0,1,2,3,4,5,6,7],none),(9,[0,1,2,3,4,5,6,7],none),(10,[0,1,2,3,4,5,6,7],none),(11,[0,1,2,3,4,5,6,7,8,9,10],none),(12,[0,1,2,3,4,5,6,7,8,9,10,11],none),(13,[0,1,2,3,4,5,6,7,8,9,10,11],none),(14,[0,1,2,3,4,5,6,7,8,9,10,11],none),(15,[],none),(16,[],none),(17,[],none)]),(16,[(0,[],none),(1,[],none),(2,[],none),(3,[],none),(4,[],none),(5,[],none),(6,[],none),(7,[],none),(8,[],none),(9,[],none),(10,[],none),(11,[],none),(12,[],none),(13,[7,8,9,10,11,12],none),(14,[7,8,9,10,11,12],none),(15,[7,8,9,10,11,12],none),(16,[7,8,9,10,11,12],none),(17,[7,8,9,10,11,12],none),(18,[],none),(19,[],none),(20,[],none),(21,[],none)]),(20,[(5,[],none),(6,[5],none),(7,[],some [122]),(0,[5,6,7],none),(1,[5,6,7],none),(2,[5,6,7,0,1],none),(3,[5,6,7,0,1],none),(4,[5,6,7,0,1],none),(8,[],none),(9,[],some [8]),(10,[],none)])]
def pl73 : List (Nat × Plan):=[(1,[(0,[],none),(1,[],none),(2,[],none),(3,[],none),(4,[0,1,2,3],none),(5,[0,1,2,3],none),(6,[0,1,2,3],none),(7,[],none),(8,[],none),(9,[],none)]),(5,[(0,[],none),(1,[],none),(2,[],none),(3,[0,1,2],none),(4,[0,1,2],none),(5,[0,1,2],none),(6,[0,1,2],none),(7,[0,1,2,3,4,5,6],none),(8,[0,1,2,3,4,5,6],none),(9,[],none),(10,[],none),(11,[],none),(12,[],none),(13,[12],none),(14,[13],none),(15,[],none)])]
def pl77 : List (Nat × Plan):=[(1,[(0,[],none),(1,[],none),(2,[],none),(3,[0,1,2],none),(4,[0,1,2],none),(5,[],none),(6,[0,1,2,3,4,5],none),(7,[0,1,2,3,4,5,6],none),(8,[],none),(9,[],none),(10,[],some [17,21]),(11,[],none),(12,[],none),(13,[],none),(15,[0,1,2,3,4,5,6,7,8,9,10,11,12,13],none),(16,[],some [9]),(14,[13,15,16],none),(17,[],none)])]
def pl83 : List (Nat × Plan):=[(4,[(1,[],none),(2,[],none),(3,[],none),(4,[],none),(5,[1,2,3,4],none),(6,[1,2,3,4],none),(7,[1,2,3,4],none),(8,[],some [17]),(0,[1,2,3,4,5,6,7,8],none),(9,[],none),(10,[],none),(11,[],some [23])])]
def pl84 : List (Nat × Plan):=[(4,[(1,[],none),(2,[],none),(3,[],none),(4,[],none),(5,[1,2,3,4],none),(6,[],some [17]),(0,[1,2,3,4,5,6],none),(7,[],none),(8,[],none),(9,[],some [21])])]
def pl93 : List (Nat × Plan):=[(4,[(0,[],none),(1,[0],none),(2,[],none),(3,[],none),(4,[0,1,2,3],none),(5,[0,1,2,3,4],none),(6,[0,1,2,3],none),(7,[0,1,2,3],none),(8,[],none),(9,[],none)]),(5,[(0,[],none),(1,[0],none),(2,[0,1],none),(3,[0],none),(4,[0],none),(5,[],some [26]),(6,[0,1,2,3,4,5],none),(7,[0,1,2,3,4,5,6],none),(8,[0,1,2,3,4,5,6,7],none),(9,[0,1,2,3,4,5,6],none),(10,[0,1,2,3,4,5,6],none),(11,[],some [32]),(12,[],none),(13,[],none),(14,[],none)])]
def pl95 : List (Nat × Plan):=[(12,[(0,[],none),(1,[0],none),(2,[0,1],none),(3,[0,1,2],none),(4,[0,1],none),(5,[0,1],none),(6,[0,1],none),(7,[0,1],none),(8,[0,1,2,3,4,5,6,7],none),(9,[0,1,2,3,4,5,6,7,8],none),(10,[0,1,2,3,4,5,6,7,8],none),(11,[0,1,2,3,4,5,6,7],none),(12,[0,1,2,3,4,5,6,7],none),(13,[0,1,2,3,4,5,6,7],none),(14,[0,1,2,3,4,5,6,7],none),(15,[0,1],none),(16,[0,1,2,3,4,5,6,7,8,9,10,11,12,13,14,15],none),(17,[0,1,2,3,4,5,6,7,8,9,10,11,12,13,14,15,16],none),(18,[0,1,2,3,4,5,6,7,8,9,10,11,12,13,14,15,16],none),(19,[0,1,2,3,4,5,6,7,8,9,10,11,12,13,14,15],none),(20,[0,1,2,3,4,5,6,7,8,9,10,11,12,13,14,15],none),(21,[0,1,2,3,4,5,6,7,8,9,10,11,12,13,14,15],none),(22,[0,1,2,3,4,5,6,7,8,9,10,11,12,13,14,15],none),(23,[0,1],none),(24,[0,1,2,3,4,5,6,7,8,9,10,11,12,13,14,15,16,17,18,19,20,21,22,23],none),(25,[0,1,2,3,4,5,6,7,8,9,10,11,12,13,14,15,16,17,18,19,20,21,22,23,24],none),(26,[0,1,2,3,4,5,6,7,8,9,10,11,12,13,14,15,16,17,18,19,20,21,22,23,24],none),(27,[0,1,2,3,4,5,6,7,8,9,10,11,12,13,14,15,16,17,18,19,20,21,22,23],none),(28,[0,1,2,3,4,5,6,7,8,9,10,11,12,13,14,15,16,17,18,19,20,21,22,23],none),(29,[0,1,2,3,4,5,6,7,8,9,10,11,12,13,14,15,16,17,18,19,20,21,22,23],none),(30,[0,1],none),(31,[],none),(32,[],some [74])]),(18,[(0,[],none),(1,[0],none),(2,[0,1],none),(3,[0,1],none),(4,[0,1,2,3],none),(5,[0,1],none),(6,[0,1],none),(7,[0,1,2,3,4,5,6],none),(8,[0,1,2,3,4,5,6],none),(9,[0,1],none),(10,[0,1,2,3,4,5,6,7,8,9],none),(11,[0,1,2,3,4,5,6,7,8,9,10],none),(12,[0,1,2,3,4,5,6,7,8,9,10],none),(13,[0,1,2,3,4,5,6,7,8,9],none),(14,[0,1,2,3,4,5,6,7,8,9],none),(15,[0,1],none),(16,[0,1,2,3,4,5,6,7,8,9,10,11,12,13,14,15],none),(17,[0,1,6,7,8,9,10,11,12,13,14,15],none),(18,[0,1,2,3,4,5,6,7,8,9,10,11,12,13,14,15,16,17],none),(19,[0,1,6,7,8,9,10,11,12,13,14,15],none),(20,[0,1,6,7,8,9,10,11,12,13,14,15],none),(21,[0,1,2,3,4,5,6,7,8,9,10,11,12,13,14,15,16,17,18,19,20],none),(22,[0,1,2,3,4,5,6,7,8,9,10,11,12,13,14,15,16,17,18,19,20],none),(23,[0,1,6,7,8,9,10,11,12,13,14,15],none),(24,[0,1],none),(25,[0,1,2,3,4,5,6,7,8,9,10,11,12,13,14,15,16,17,18,19,20,21,22,23,24],none),(26,[0,1,2,3,4,5,6,7,8,9,10,11,12,13,14,15,16,17,18,19,20,21,22,23,24,25],none),(27,[0,1,2,3,4,5,6,7,8,9,10,11,12,13,14,15,16,17,18,19,20,21,22,23,24,25],none),(28,[0,1,2,3,4,5,6,7,8,9,10,11,12,13,14,15,16,17,18,19,20,21,22,23,24],none),(29,[0,1,2,3,4,5,6,7,8,9,10,11,12,13,14,15,16,17,18,19,20,21,22,23,24],none),(30,[0,1],none),(31,[],none),(32,[],some [120])]),(25,[(0,[],none),(1,[0],none),(2,[0],none),(3,[0],none),(4,[],none),(5,[0,1,2,3,4],none),(6,[0,1,2,3,4],none),(7,[0,1,2,3,4,5,6],none),(8,[0,1,2,3,4,5,6],none),(9,[0,1,2,3,4,5,6],none),(10,[0,1,2,3,4],none),(11,[],none),(12,[],none)]),(26,[(0,[],none),(1,[0],none),(2,[0],none),(3,[0],none),(4,[],none),(5,[0,1,2,3,4],none),(6,[0,1,2,3,4,5],none),(7,[0,1,2,3,4,5],none),(8,[0,1,2,3,4,5],none),(9,[0,1,2,3,4],none),(10,[],none),(11,[0,1,2,3,4,5,6,7,8,9,10],none),(12,[0,1,2,3,4,5,6,7,8,9,10],none),(13,[0,1,2,3,4,5,6,7,8,9,10],none),(14,[0,1,2,3,4,5,6,7,8,9,10,11,12,13],none),(15,[0,1,2,3,4,5,6,7,8,9,10,11,12,13],none),(16,[0,1,2,3,4,5,6,7,8,9,10,11,12,13],none),(17,[0,1,2,3,4,5,6,7,8,9,10],none),(18,[],none),(19,[],none)]),(27,[(0,[],none),(1,[],none),(2,[],none),(3,[0,1,2],none),(4,[0,1,2],none),(5,[0,1,2,3,4],none),(6,[0,1,2],none),(7,[0,1,2],none),(8,[0,1,2,3,4,5,6,7],none),(9,[0,1,2,7],none),(10,[0,1,2],none),(11,[],none),(12,[0,1,2,3,4,5,6,7,8,9,10,11],none),(13,[],none),(14,[0,1,2,3,4,5,6,7,8,9,10,11,12,13],none),(15,[0,1,2,3,4,5,6,7,8,9,10,11,12,13,14],none),(16,[0,1,2,3,4,5,6,7,8,9,10,11,12,13],none),(17,[0,1,2,3,4,5,6,7,8,9,10,11,12,13],none),(18,[],none),(19,[0,1,2,3,4,5,6,7,8,9,10,11,12,13,14,15,16,17,18],none),(20,[0,1,2,3,4,5,6,7,8,9,10,11,12,13,14,15,16,17,18,19],none),(21,[0,1,2,3,4,5,6,7,8,9,10,11,12,13,14,15,16,17,18],none),(22,[0,1,2,3,4,5,6,7,8,9,10,11,12,13,14,15,16,17,18],none),(23,[],none),(24,[],none)]),(29,[(0,[],none),(1,[0],none),(2,[],none),(3,[0,1,2],none),(4,[0,1,2,3],none),(5,[0,1,2,3],none),(6,[0,1,2,3],none),(7,[0,1,2,3,4,5,6],none),(8,[0,1,2,3,4,5,6],none),(9,[0,1,2,3,4,5,6],none),(10,[0,1,2,3,4,5,6,7,8,9],none),(11,[0,1,2,3,4,5,6,7,8,9],none),(12,[0,1,2,3,4,5,6,7,8,9],none),(13,[0,1,2,3,4,5,6,7,8,9,10,11,12],none),(14,[0,1,2,3,4,5,6,7,8,9],none),(15,[0,1,2,3,4,5,6,7,8,9,10,11,12,13,14],none),(16,[0,1,2,3,4,5,6,7,8,9,10,11,12,13,14,15],none),(17,[0,1,2,3,4,5,6,7,8,9,10,11,12,13,14,15],none),(18,[0,1,2,3,4,5,6,7,8,9,10,11,12,13,14,15],none),(19,[0,1,2,3,4,5,6,7,8,9,10,11,12,13,14,15,16,17,18],none),(20,[0,1,2,3,4,5,6,7,8,9,10,11,12,13,14,15,16,17,18],none),(21,[0,1,2,3,4,5,6,7,8,9,10,11,12,13,14,15,16,17,18],none),(22,[],none),(23,[],none)]),(33,[(0,[],none),(1,[0],none),(2,[0,1],none),(3,[0,1,2],none),(4,[0,1],none),(5,[0,1],none),(6,[0,1,2,3,4,5],none),(7,[0,1,2,3,4,5,6],none),(8,[0,1,2,3,4,5],none),(9,[0,1,2,3,4,5],none),(10,[0,1],none),(11,[],none),(12,[],some [237])])]
def pl96 : List (Nat × Plan):=[(3,[(0,[],none),(1,[0],none),(2,[0,1],none),(3,[1],none),(4,[0,1,2,3],none),(5,[],none),(6,[],none),(7,[],some [6]),(8,[],none)])]
def pl97 : List (Nat × Plan):=[(3,[(0,[],none),(1,[0],none),(2,[0,1],none),(3,[0],none),(4,[],none),(5,[],some [4]),(6,[],none)])]
def pl98 : List (Nat × Plan):=[(1,[(0,[],none),(1,[0],none),(2,[],none),(3,[],none),(4,[0,1,2,3],none),(5,[0,1,2,3,4],none),(6,[0,1,2,3,4,5],none),(7,[],none),(8,[],none)])]
def pl102 : List (Nat × Plan):=[(10,[(0,[],none),(1,[],none),(2,[],none),(5,[],some [10]),(3,[0,1,2,5],none),(4,[0,1,2,5],none),(6,[],none)])]
def pl108 : List (Nat × Plan):=[(1,[(0,[],none),(1,[],none),(2,[0,1],none),(3,[0,1,2],none),(4,[0,1,2,3],none),(5,[0,1,2,3],none),(6,[0,1,2,3],none),(7,[0,1,2,3],none),(8,[0,1,2,3],none),(9,[],none),(10,[],none),(11,[],none),(12,[11],none),(13,[12],none),(14,[],none)]),(2,[(0,[],none),(1,[],none),(2,[],none),(3,[],none),(4,[],none),(5,[],none),(6,[3,4,5],none),(7,[3,4,5],none),(8,[3,4,5],none),(9,[3,4,5],none),(10,[3,4,5],none),(11,[],none),(12,[],none)]),(4,[(0,[],none),(1,[0],none),(2,[0,1],none),(3,[0,1],none),(4,[0,1],none),(5,[0,1],none),(6,[0,1],none),(7,[0,1,2,3,4,5,6],none),(8,[0,1,2,3,4,5,6],none),(9,[0,1,2,3,4,5,6],none),(10,[0,1,2,3,4,5,6],none),(11,[0,1,2,3,4,5,6],none),(12,[0,1,2,3,4,5,6,7,8,9,10,11],none),(13,[0,1,2,3,4,5,6,7,8,9,10,11],none),(14,[0,1,2,3,4,5,6,7,8,9,10,11],none),(15,[0,1,2,3,4,5,6,7,8,9,10,11],none),(16,[0,1,2,3,4,5,6,7,8,9,10,11],none),(17,[0,1,2,3,4,5,6,7,8,9,10,11],none),(18,[0,1],none),(19,[],none),(20,[],none),(21,[],none),(23,[0,1,2,3,4,5,6,7,8,9,10,11,12,13,14,15,16,17,18,19,20,21],none),(24,[],some [12]),(22,[21,23,24],none),(25,[],none)]),(7,[(0,[],none),(1,[0],none),(2,[0],none),(3,[0,1,2],none),(4,[0,1,2],none),(5,[0,1,2],none),(6,[0,1,2],none),(7,[0,1,2],none),(8,[0,1,2,3,4,5,6,7],none),(9,[0,1,2,3,4,5,6,7,8],none),(10,[0,1,2,3,4,5,6,7,8],none),(11,[0,1,2,3,4,5,6,7,8],none),(12,[0,1,2,3,4,5,6,7,8],none),(13,[0,1,2,3,4,5,6,7,8],none),(14,[0,1,2,3,4,5,6,7,8,9,10,11,12,13],none),(15,[0,1,2,3,4,5,6,7,8,9,10,11,12,13],none),(16,[0,1,2,3,4,5,6,7,8,9,10,11,12,13],none),(17,[0,1,2,3,4,5,6,7,8,9,10,11,12,13],none),(18,[0,1,2,3,4,5,6,7,8,9,10,11,12,13],none),(19,[],none),(20,[],none),(21,[],none),(23,[0,1,2,3,4,5,6,7,8,9,10,11,12,13,14,15,16,17,18,19,20,21],none),(24,[],some [13]),(22,[21,23,24],none),(25,[],none)])]
def pl115 : List (Nat × Plan):=[(1,[(0,[],none),(1,[],none),(2,[],none),(3,[],none),(4,[0,1,2,3],none),(5,[0,1,2,3],none),(6,[0,1,2,3,4,5],none),(7,[0,1,2,3,4,5],none),(8,[0,1,2,3,4,5],none),(9,[0,1,2,3,4,5],none),(10,[0,1,2,3],none),(11,[],none),(12,[0,1,2,3,4,5,6,7,8,9,10,11],none),(13,[0,1,2,3,4,5,6,7,8,9,10,11],none),(14,[0,1,2,3,4,5,6,7,8,9,10,11,12,13],none),(15,[0,1,2,3,4,5,6,7,8,9,10,11],none),(16,[],some [17])])]
def pl121 : List (Nat × Plan):=[(7,[(0,[],none),(1,[],none),(2,[],none),(3,[0,1,2],none),(4,[0,1,2,3],none),(5,[0,1,2,3],none),(6,[0,1,2,3],none),(7,[0,1,2],none),(8,[],none),(9,[],none),(10,[],none),(12,[0,1,2,3,4,5,6,7,8,9,10],none),(13,[],some [7]),(11,[10,12,13],none),(14,[],none)]),(10,[(0,[],none),(1,[],none),(2,[],none),(3,[0,1,2],none),(4,[],none)])]
def pl128 : List (Nat × Plan):=[(6,[(0,[],none),(1,[0],none),(2,[0],none),(3,[0,1,2],none),(4,[0,1,2,3],none),(5,[0,1,2],none),(6,[0,1,2],none),(7,[0,1,2,3,4,5,6],none),(8,[0,1,2,3,4,5,6,7],none),(9,[0,1,2,3,4,5,6],none),(10,[0,1,2,3,4,5,6],none),(11,[0,1,2],none),(12,[],none),(13,[],some [24])])]
def pl129 : List (Nat × Plan):=[(6,[(0,[],none),(1,[0],none),(2,[0,1],none),(3,[0],none),(4,[0,1,2,3],none),(5,[0,1,2,3],none),(6,[],none),(7,[0,1,2,3,4,5,6],none),(8,[0,1,2,3,4,5,6,7],none),(9,[0,1,2,3,4,5,6,7,8],none),(10,[0,1,2,3,4,5,6,7],none),(11,[0,1,2,3,4,5,6,7,8,9,10],none),(12,[0,1,2,3,4,5,6,7,8,9,10],none),(13,[],none),(14,[],none),(15,[],some [6])])]
def pl130 : List (Nat × Plan):=[(1,[(0,[],none),(1,[],none),(2,[],none),(3,[],none),(4,[0,1,2,3],none),(5,[0,1,2,3],none),(6,[0,1,2,3],none),(7,[0,1,2,3,4,5,6],none),(8,[0,1,2,3,4,5,6],none),(9,[],none),(10,[],none),(11,[],none),(14,[0,1,2,3,4,5,6,7,8,9,10,11],none),(15,[0,1,2,3,4,5,6,7,8,9,10,11,14],none),(16,[],some [7]),(12,[11,14,15,16],none),(17,[],some [8]),(13,[11,14,15,16,12,17],none),(18,[],none)]),(2,[(0,[],none),(1,[],none),(2,[],none),(3,[],none),(4,[0,1,2,3],none),(5,[0,1,2,3,4],none),(6,[0,1,2,3,4],none),(7,[],none),(8,[],none),(9,[],none),(12,[0,1,2,3,4,5,6,7,8,9],none),(13,[0,1,2,3,4,5,6,7,8,9,12],none),(14,[],some [10]),(10,[9,12,13,14],none),(15,[],some [11]),(11,[9,12,13,14,10,15],none),(16,[],none)]),(3,[(0,[],none),(1,[0],none),(2,[],none),(5,[],some [4]),(3,[0,1,2,5],none),(6,[],some [5]),(4,[0,1,2,5,3,6],none),(7,[],some [6])])]
def pl132 : List (Nat × Plan):=[(1,[(0,[],none),(1,[],none),(2,[0,1],none),(3,[0,1],none),(4,[],some [6,8]),(5,[0,1,2,3,4],none),(6,[0,1,2,3,4],none),(7,[],some [9,11]),(8,[],none),(9,[],none),(10,[],none),(11,[],none)])]
def pl136 : List (Nat × Plan):=[(5,[(6,[],none),(7,[6],none),(8,[],some [30]),(1,[6,7,8],none),(2,[6,7,8],none),(3,[6,7,8],none),(4,[6,7,8],none),(5,[6,7,8,1,2,3,4],none),(9,[1,2,3,4],none),(10,[1,2,3,4],none),(11,[],some [28,34]),(0,[6,7,8,1,2,3,4,5,9,10,11],none),(12,[],none),(13,[],none),(14,[],some [37])])]
def pl137 : List (Nat × Plan):=[(6,[(0,[],none),(1,[0],none),(2,[0,1],none),(3,[0,1],none),(4,[0,1],none),(5,[0,1],none),(6,[],some [20,21,25])])]
def pl138 : List (Nat × Plan):=[(8,[(0,[],none),(1,[],none),(2,[],none),(3,[],none),(4,[0,1,2,3],none),(5,[0,1,2,3],none),(6,[0,1,2,3],none),(7,[0,1,2,3],none),(8,[0,1,2,3,4,5,6,7],none),(9,[0,1,2,3,4,5,6,7],none),(10,[0,1,2,3],none),(11,[0,1,2,3,4,5,6,7,8,9,10],none),(12,[0,1,2,3,4,5,6,7,8,9,10,11],none),(13,[0,1,2,3,4,5,6,7,8,9,10,11,12],none),(14,[0,1,2,3,4,5,6,7,8,9,10],none),(15,[],some [29,36,40]),(16,[],none)])]
def pl139 : List (Nat × Plan):=[(5,[(0,[],none),(1,[0],none),(2,[0],none),(3,[0,1,2],none),(4,[0,1,2],none),(5,[0,1,2],none),(6,[0],none),(7,[],none),(8,[0,1,2,3,4,5,6,7],none),(9,[],some [10])]),(10,[(0,[],none),(1,[0],none),(2,[0],none),(3,[0],none),(4,[0],none),(5,[0],none),(6,[0,1,2,3,4,5],none),(7,[0,1,2,3,4,5],none),(8,[0,1,2,3,4,5],none),(9,[0,1,2,3,4,5],none),(10,[0,1,2,3,4,5],none),(11,[0,1,2,3,4,5,6,7,8,9,10],none),(12,[0,1,2,3,4,5,6,7,8,9,10],none),(13,[0,1,2,3,4,5,6,7,8,9,10],none),(14,[0,1,2,3,4,5,6,7,8,9,10,11,12,13],none),(15,[0,1,2,3,4,5,6,7,8,9,10,11,12,13],none),(16,[0,1,2,3,4,5,6,7,8,9,10,11,12,13],none),(17,[0,1,2,3,4,5,6,7,8,9,10,11,12,13],none),(18,[0,1,2,3,4,5,6,7,8,9,10,11,12,13],none),(19,[],none),(20,[],none),(21,[],none),(24,[0,1,2,3,4,5,6,7,8,9,10,11,12,13,14,15,16,17,18,19,20,21],none),(25,[],some [13]),(22,[21,24,25],none),(23,[21,24,25,22],none),(26,[23],none),(27,[],none)]),(13,[(0,[],none),(1,[],none),(2,[0,1],none),(3,[0,1,2],none),(4,[0,1,2],none),(5,[0,1,2,3,4],none),(6,[0,1,2,3,4],none),(7,[0,1,2,3,4,5,6],none),(8,[0,1,2,3,4,5,6],none),(9,[0,1,2,3,4,5,6],none),(10,[0,1,2,3,4,5,6],none),(11,[0,1,2,3,4,5,6],none),(12,[0,1],none),(13,[0,1,2,3,4,5,6,7,8,9,10,11,12],none),(14,[0,1],none),(15,[0,1],none),(16,[],some [85,99]),(17,[],none),(18,[],some [101])])]
def pl140 : List (Nat × Plan):=[(3,[(0,[],none),(1,[],none),(2,[0,1],none),(3,[0,1,2],none),(4,[],none),(5,[0,1,2,3,4],none),(6,[0,1,2,3,4,5],none),(7,[0,1,2,3,4,5],none),(8,[],none),(9,[],none),(10,[],none)]),(9,[(0,[],none),(1,[],none),(2,[],none),(3,[],none),(4,[],none),(5,[],none),(6,[],none),(11,[],some [10]),(7,[0,1,2,3,4,5,6,11],none),(8,[0,1,2,3,4,5,6,11],none),(9,[0,1,2,3,4,5,6,11],none),(10,[0,1,2,3,4,5,6,11],none),(12,[],none),(13,[],none)])]
def pl141 : List (Nat × Plan):=[(1,[(0,[],none),(1,[0],none),(2,[0],none),(3,[0,1,2],none),(4,[0,1,2],none),(5,[0,1,2],none),(6,[0],none),(7,[],none),(8,[],some [4])])]
def pl142 : List (Nat × Plan):=[(2,[(0,[],none),(1,[],none),(2,[0,1],none),(3,[],none),(4,[],none),(5,[],some [4])])]
def pl144 : List (Nat × Plan):=[(5,[(0,[],none),(3,[],some [6]),(1,[0,3],none),(4,[],some [7]),(2,[0,3,1,4],none),(5,[],none)])]
def pl148 : List (Nat × Plan):=[(1,[(0,[],none),(1,[0],none),(2,[0,1],none),(3,[],none),(4,[],none),(5,[],some [4])])]
def pl154 : List (Nat × Plan):=[(1,[(0,[],none),(1,[0],none),(2,[],none),(3,[0,1,2],none),(4,[0,1,2,3],none),(5,[0,1,2],none),(6,[0,1,2,3,4,5],none),(7,[0,1,2],none),(8,[],none),(9,[],none)])]
def pl160 : List (Nat × Plan):=[(1,[(0,[],none),(1,[0],none),(2,[0],none),(3,[0,1,2],none),(4,[0,1,2],none),(5,[],none),(6,[],none),(7,[],some [2])])]
def pl163 : List (Nat × Plan):=[(1,[(0,[],none),(1,[],none),(2,[],none),(3,[0,1,2],none),(4,[0,1,2,3],none),(5,[0,1,2,3,4],none),(6,[],none),(7,[],none)])]
def pl166 : List (Nat × Plan):=[(3,[(0,[],none),(1,[0],none),(2,[],some [9]),(3,[0,1,2],none),(4,[0,1,2],none),(5,[],some [11]),(6,[],none)])]
def pl169 : List (Nat × Plan):=[(1,[(0,[],none),(1,[0],none),(2,[],some [5]),(3,[0,1,2],none),(4,[],some [7]),(5,[],none)])]
def pl170 : List (Nat × Plan):=[(1,[(0,[],none),(1,[0],none),(2,[0,1],none),(3,[0,1,2],none),(4,[1,2],none),(5,[],none),(6,[0,1,2,3,4,5],none),(7,[],some [14,15]),(8,[],none),(9,[],some [8])])]
def pl171 : List (Nat × Plan):=[(0,[(0,[],none),(1,[0],none),(2,[0,1],none),(3,[0,1,2],none),(4,[0,1,2],none),(5,[0,1,2],none),(6,[0,1,2],none),(7,[0,1,2],none),(8,[0,1],none),(9,[0,1],none),(10,[0,1,2,3,4,5,6,7,8,9],none),(11,[0,1,2,3,4,5,6,7,8,9,10],none),(12,[0,1,2,3,4,5,6,7,8,9,10],none),(13,[0,1,2,3,4,5,6,7,8,9,10],none),(14,[0,1,2,3,4,5,6,7,8,9,10],none),(15,[0,1,2,3,4,5,6,7,8,9,10],none),(16,[0,1,2,3,4,5,6,7,8,9,10],none),(17,[0,1,2,3,4,5,6,7,8,9,10],none),(18,[0,1,2,3,4,5,6,7,8,9],none),(19,[0],none),(20,[],none),(21,[],none),(22,[],some [27])])]
def pl174 : List (Nat × Plan):=[(12,[(0,[],none),(1,[0],none),(2,[0,1],none),(3,[0,1,2],none),(4,[0,1,2],none),(5,[0,1],none),(6,[0,1],none),(7,[0,1,2,3,4,5,6],none),(8,[0,1,2,3,4,5,6,7],none),(9,[0,1,2,3,4,5,6,7],none),(10,[0,1,2,3,4,5,6,7],none),(11,[0,1,2,3,4,5,6],none),(12,[0,1,2,3,4,5,6],none),(13,[0,1,2,3,4,5,6,7,8,9,10,11,12],none),(14,[0,1,2,3,4,5,6,7,8,9,10,11,12,13],none),(15,[0,1,2,3,4,5,6,7,8,9,10,11,12,13,14],none),(16,[0,1,2,3,4,5,6,7,8,9,10,11,12,13,14,15],none),(17,[0,1,2,3,4,5,6,7,8,9,10,11,12,13,14,15],none),(18,[0,1,2,3,4,5,6,7,8,9,10,11,12,13],none),(19,[0,1],none),(20,[],none),(21,[],some [59])])]
def pl177 : List (Nat × Plan):=[(6,[(0,[],none),(1,[],none),(2,[],none),(3,[],none),(4,[],none),(5,[4],none),(6,[4],none),(7,[4],none),(8,[],none),(9,[],none),(10,[],none),(11,[4,5,6,7,8,9,10],none),(12,[4,5,6,7,8,9,10],none),(13,[],none),(14,[],none)]),(8,[(0,[],none),(1,[0],none),(2,[0],none),(3,[0],none),(4,[],none),(5,[0,1,2,3,4],none),(6,[0,1,2,3,4],none),(7,[0,1,2,3,4,5,6],none),(8,[0,1,2,3,4,5,6],none),(9,[0,1,2,3,4],none),(10,[0,1,2,3,4,5,6,7,8,9],none),(11,[0,1,2,3,4,5,6,7,8,9],none),(12,[0,1,2,3,4,5,6,7,8,9],none),(13,[0,1,2,3,4],none),(14,[10,11,12,13],none),(15,[],some [6])]),(17,[(0,[],none),(1,[0],none),(2,[],none),(3,[],none),(4,[],none),(5,[0,1,2,3,4],none),(6,[],none),(7,[],some [8])])]
def pl180 : List (Nat × Plan):=[(13,[(0,[],none),(1,[],none),(2,[0,1],none),(3,[0,1],none),(4,[0,1,2,3],none),(5,[0,1,2,3],none),(6,[0,1,2,3,4,5],none),(7,[0,1,2,3,4,5],none),(8,[0,1,2,3,4,5,6,7],none),(9,[0,1,2,3,4,5,6,7],none),(10,[0,1,2,3,4,5,6,7,8,9],none),(11,[0,1,2,3,4,5,6,7,8,9],none),(12,[0,1,2,3,4,5,6,7,8,9],none),(13,[0,1,2,3,4,5,6,7,8,9],none),(14,[0,1,2,3,4,5],none),(15,[],none),(16,[],some [2]),(17,[],none)])]
def pl183 : List (Nat × Plan):=[(5,[(0,[],none),(1,[0],none),(2,[0],none),(3,[0],none),(4,[0],none),(5,[0,1,2,3,4],none),(6,[0,1,2,3,4,5],none),(7,[0,1,2,3,4,5],none),(8,[0,1,2,3,4,5],none),(9,[0,1,2,3,4,5],none),(10,[0,1,2,3,4],none),(11,[0,1,2,3,4,5,6,7,8,9,10],none),(12,[0,1,2,3,4,5,6,7,8,9,10],none),(13,[0,1,2,3,4,5,6,7,8,9,10,11,12],none),(14,[0,1,2,3,4,5,6,7,8,9,10,11,12],none),(15,[0,1,2,3,4,5,6,7,8,9,10,11,12],none),(16,[0,1,2,3,4,5,6,7,8,9,10,11,12],none),(17,[0,1,2,3,4,5,6,7,8,9,10],none),(18,[0],none),(19,[],some [17]),(20,[],none)])]
def pl184 : List (Nat × Plan):=[(3,[(0,[],none),(1,[],none),(2,[],none),(3,[],none),(4,[],none),(5,[0,1,2,3,4],none),(6,[0,1,2,3,4],none),(7,[0,1,2,3,4],none),(8,[0,1,2,3,4],none),(9,[0,1,2,3,4],none),(10,[],none),(11,[],none)])]
def pl185 : List (Nat × Plan):=[(4,[(0,[],none),(2,[0],none),(4,[],none),(5,[],none),(6,[],some [35]),(1,[0,2,4,5,6],none),(3,[0,2,4,5,6,1],none),(7,[],none),(8,[],none),(9,[],some [37])])]
def pl196 : List (Nat × Plan):=[(3,[(0,[],none),(1,[],none),(2,[0,1],none),(3,[0,1,2],none),(4,[0,1],none),(5,[],none),(6,[0,1,2,3,4,5],none),(7,[],some [9])]),(5,[(0,[],none),(3,[],some [6]),(1,[0,3],none),(4,[],some [7]),(2,[0,3,1,4],none),(5,[],none)])]
def pl197 : List (Nat × Plan):=[(3,[(0,[],none),(1,[],none),(2,[],none),(3,[],none),(4,[0,1,2,3],none),(5,[],none),(6,[0,1,2,3,4,5],none),(7,[],some [5])]),(4,[(0,[],none),(1,[0],none),(2,[0],none),(3,[0],none),(4,[0],none),(5,[],none)])]
def pl202 : List (Nat × Plan):=[(1,[(0,[],none),(1,[0],none),(2,[0,1],none),(3,[],none),(4,[],none),(5,[],some [4])])]
def pl204 : List (Nat × Plan):=[(2,[(0,[],none),(1,[],none),(2,[],none),(3,[],none),(4,[],none),(5,[],none),(6,[],none),(7,[],none),(8,[],none),(9,[],none),(10,[],none),(11,[7,8,9,10],none),(12,[7,8,9,10],none),(13,[7,8,9,10],none),(14,[7,8,9,10],none),(15,[7,8,9,10],none),(16,[7,8,9,10],none),(17,[],none),(18,[],none),(19,[],none),(20,[7,8,9,10,11,12,13,14,15,16,17,18,19],none),(21,[7,8,9,10,11,12,13,14,15,16,17,18,19],none),(22,[],none),(23,[],none)]),(3,[(0,[],none),(1,[],none),(2,[],none),(3,[],none),(4,[0,1,2,3],none),(5,[0,1,2,3],none),(6,[0,1,2,3],none),(7,[0,1,2,3],none),(8,[0,1,2,3],none),(9,[0,1,2,3],none),(10,[],none),(11,[],none),(12,[0,1,2,3,4,5,6,7,8,9,10,11],none),(13,[],some [4])]),(4,[(0,[],none),(1,[0],none),(2,[0],none),(3,[0],none),(4,[0],none),(5,[0,1,2,3,4],none),(6,[0,1,2,3,4],none),(7,[0,1,2,3,4],none),(8,[0,1,2,3,4],none),(9,[0,1,2,3,4],none),(10,[0,1,2,3,4],none),(11,[0],none),(12,[],none),(13,[],none),(14,[],some [57])]),(5,[(0,[],none),(1,[],none),(2,[],none),(3,[],none),(4,[0,1,2,3],none),(5,[0,1,2,3],none),(6,[0,1,2,3,4,5],none),(7,[0,1,2,3,4,5],none),(8,[0,1,2,3,4,5,6,7],none),(9,[0,1,2,3,4,5,6,7],none),(10,[0,1,2,3,4,5,6,7,8,9],none),(11,[0,1,2,3,4,5,6,7,8,9],none),(12,[0,1,2,3,4,5,6,7,8,9],none),(13,[],none),(14,[0,1,2,3,4,5,6,7,8,9,10,11,12,13],none),(15,[0,1,2,3,4,5,6,7,8,9,10,11,12,13],none),(16,[0,1,2,3,4,5,6,7,8,9,10,11,12,13],none),(17,[0,1,2,3,4,5,6,7,8,9,10,11,12,13,14,15,16],none),(18,[0,1,2,3,4,5,6,7,8,9,10,11,12,13,14,15,16],none),(19,[0,1,2,3,4,5,6,7,8,9,10,11,12,13,14,15,16],none),(20,[],none),(21,[],some [3])]),(7,[(1,[],none),(2,[],none),(3,[],none),(4,[],none),(5,[1,2,3,4],none),(6,[1,2,3,4],none),(7,[],some [86]),(0,[1,2,3,4,5,6,7],none),(8,[],none),(9,[],none),(10,[],some [91])])]
def pl205 : List (Nat × Plan):=[(1,[(0,[],none),(1,[],none),(2,[0,1],none),(3,[0,1],none),(4,[0,1,2,3],none),(5,[0,1,2,3,4],none),(6,[0,1,2,3,4,5],none),(7,[0,1,2,3,4,5],none),(8,[0,1,2,3],none),(9,[],none),(10,[],none)]),(2,[(0,[],none),(1,[0],none),(2,[0],none),(3,[0,1,2],none),(4,[0,1,2,3],none),(5,[0,1,2,3,4],none),(6,[0,1,2,3,4],none),(7,[0,1,2],none),(8,[],none),(9,[],none),(10,[],none),(12,[0,1,2,3,4,5,6,7,8,9,10],none),(13,[],some [10]),(11,[10,12,13],none),(14,[],none)])]
def pl215 : List (Nat × Plan):=[(3,[(4,[],none),(5,[4],none),(6,[4],none),(7,[4],none),(8,[4],none),(9,[],some [16]),(0,[4,5,6,7,8,9],none),(1,[4,5,6,7,8,9],none),(2,[4,5,6,7,8,9],none),(3,[4,5,6,7,8,9],none),(10,[],none),(11,[],none),(12,[],none)])]
def pl219 : List (Nat × Plan):=[(1,[(0,[],none),(1,[0],none),(2,[],none),(3,[],none),(4,[0,1,2,3],none),(5,[0,1,2,3],none),(6,[0,1,2,3],none),(7,[0,1,2,3,4,5,6],none),(8,[0,1,2,3,4,5,6,7],none),(9,[],none),(10,[],some [7])])]
def pl222 : List (Nat × Plan):=[(5,[(0,[],none),(1,[0],none),(2,[0,1],none),(3,[0,1,2],none),(4,[0,1,2],none),(5,[0,1],none),(6,[0],none),(7,[],none),(8,[],some [21])]),(7,[(0,[],none),(1,[],none),(2,[0,1],none),(3,[0,1,2],none),(4,[0,1,2],none),(5,[0,1],none),(6,[0,1,2,3,4,5],none),(7,[0,1,2,3,4,5,6],none),(8,[0,1,2,3,4,5,6],none),(9,[0,1],none),(10,[],none),(11,[],some [8])])]
def pl225 : List (Nat × Plan):=[(1,[(0,[],none),(1,[0],none),(2,[0,1],none),(3,[0,1],none),(4,[0,1,2,3],none),(5,[0,1,2,3],none),(6,[0,1,2,3,4,5],none),(7,[0,1,2,3,4,5],none),(8,[0,1,2,3],none),(9,[0,1,2,3,4,5,6,7,8],none),(10,[0,1,2,3,4,5,6,7,8],none),(11,[0,1,2,3,4,5,6,7,8,9,10],none),(12,[0,1,2,3,4,5,6,7,8,9,10],none),(13,[0,1,2,3],none),(14,[],none),(15,[],some [10])])]
def pl234 : List (Nat × Plan):=[(1,[(0,[],none),(1,[0],none),(2,[],none),(3,[0,1,2],none),(4,[0,1,2],none),(5,[0,1,2],none),(6,[0,1,2,3,4,5],none),(7,[0,1,2,3,4,5,6],none),(8,[],none),(9,[],some [7])])]
def pl235 : List (Nat × Plan):=[(1,[(0,[],none),(1,[0],none),(2,[0],none),(3,[],none),(4,[],some [4])])]
def pl236 : List (Nat × Plan):=[(1,[(0,[],none),(1,[],none),(2,[0,1],none),(3,[0,1],none),(4,[0,1],none),(5,[0,1],none),(6,[0,1],none),(7,[],none),(8,[],none),(9,[],none),(10,[],none),(11,[9,10],none),(12,[9,10],none),(13,[9,10],none),(14,[9,10],none),(15,[9,10,11,12,13,14],none),(16,[9,10,11,12,13,14],none),(17,[9,10],none),(18,[9,10],none),(19,[],none),(20,[],none)]),(2,[(0,[],none),(1,[],none),(2,[],none),(3,[],none),(4,[0,1,2,3],none),(5,[0,1,2,3],none),(6,[0,1,2,3,4,5],none),(7,[0,1,2,3,4,5],none),(8,[],none),(9,[],some [33])])]
def pl241 : List (Nat × Plan):=[(5,[(0,[],none),(1,[],none),(2,[0,1],none),(3,[0,1],none),(4,[2,3],none),(5,[],none)]),(6,[(0,[],none),(1,[],none),(2,[0,1],none),(3,[0,1],none),(4,[0,1,2,3],none),(5,[0,1],none),(6,[0,1],none),(7,[0,1,2,3,4,5,6],none),(8,[0,1,6],none),(9,[0,1],none),(10,[],none),(11,[0,1,2,3,4,5,6,7,8,9,10],none),(12,[0,1,2,3,4,5,6,7,8,9,10,11],none),(13,[0,1,2,3,4,5,6,7,8,9,10,11],none),(14,[0,1,2,3,4,5,6,7,8,9,10],none),(15,[0,1,2,3,4,5,6,7,8,9,10,11,12,13,14],none),(16,[0,1,2,3,4,5,6,7,8,9,10,11,12,13,14],none),(17,[0,1,2,3,4,5,6,7,8,9,10,11,12,13,14,15,16],none),(18,[0,1,2,3,4,5,6,7,8,9,10,11,12,13,14,15,16],none),(19,[0,1,2,3,4,5,6,7,8,9,10,11,12,13,14],none),(20,[0,1,2,3,4,5,6,7,8,9,10],none),(21,[],none),(22,[0,1,2,3,4,5,6,7,8,9,10,11,12,13,14,15,16,17,18,19,20,21],none),(23,[0,1,2,3,4,5,6,7,8,9,10,11,12,13,14,15,16,17,18,19,20,21],none),(24,[0,1,2,3,4,5,6,7,8,9,10,11,12,13,14,15,16,17,18,19,20,21],none),(25,[],none),(26,[0,1,2,3,4,5,6,7,8,9,10,11,12,13,14,15,16,17,18,19,20,21,22,23,24,25],none),(27,[0,1,2,3,4,5,6,7,8,9,10,11,12,13,14,15,16,17,18,19,20,21,22,23,24,25],none),(28,[0,1,2,3,4,5,6,7,8,9,10,11,12,13,14,15,16,17,18,19,20,21,22,23,24,25],none),(29,[],none),(30,[],none)]),(7,[(0,[],none),(1,[],none),(2,[0,1],none),(3,[],none),(4,[],none),(5,[0,1,2,3,4],none),(6,[4],none),(7,[],none),(8,[0,1,2,3,4,5,6,7],none),(9,[0,1,2,3,4,5,6,7,8],none),(10,[0,1,2,3,4,5,6,7,8],none),(11,[0,1,2,3,4,5,6,7],none),(12,[0,1,2,3,4,5,6,7,8,9,10,11],none),(13,[0,1,2,3,4,5,6,7,8,9,10,11,12],none),(14,[0,1,2,3,4,5,6,7,8,9,10,11,12],none),(15,[0,1,2,3,4,5,6,7,8,9,10,11],none),(16,[0,1,2,3,4,5,6,7],none),(17,[0,1,2,3,4,5,6,7,8,9,10,11,12,13,14,15,16],none),(18,[0,1,2,3,4,5,6,7,8,9,10,11,12,13,14,15,16],none),(19,[0,1,2,3,4,5,6,7,8,9,10,11,12,13,14,15,16,17,18],none),(20,[0,1,2,3,4,5,6,7,8,9,10,11,12,13,14,15,16,17,18],none),(21,[0,1,2,3,4,5,6,7,8,9,10,11,12,13,14,15,16],none),(22,[0,1,2,3,4,5,6,7],none),(23,[],none),(24,[],none)]),(13,[(0,[],none),(1,[0],none),(2,[1],none),(3,[1],none),(4,[],none),(5,[],none),(6,[0,1,2,3,4,5],none),(7,[],none),(8,[1,2,3,4,5,6,7],none),(9,[1,2,3,4,5,6,7],none),(10,[],none),(11,[],some [116])])]
def pl245 : List (Nat × Plan):=[(1,[(0,[],none),(1,[0],none),(2,[0,1],none),(3,[0,1,2],none),(4,[],none),(5,[],none),(6,[],some [6])])]
def pl246 : List (Nat × Plan):=[(4,[(0,[],none),(1,[],none),(2,[],none),(3,[0,1,2],none),(4,[0,1,2],none),(5,[0,1,2],none),(6,[],none),(7,[],none),(8,[],some [16])])]
def pl248 : List (Nat × Plan):=[(4,[(0,[],none),(1,[],none),(2,[],none),(3,[],none),(4,[],none),(5,[0,1,2,3,4],none),(6,[0,1,2,3,4],none),(7,[0,1,2,3,4],none),(8,[0,1,2,3,4],none),(9,[],none),(10,[],none)])]
def pl261 : List (Nat × Plan):=[(1,[(0,[],none),(1,[0],none),(2,[],none),(3,[0,1,2],none),(4,[0,1,2,3],none),(5,[],none),(6,[],some [6])])]
def pl262 : List (Nat × Plan):=[(14,[(0,[],none),(1,[],none),(2,[],none),(3,[],none),(4,[0,1,2,3],none),(5,[0,1,2,3],none),(6,[0,1,2,3],none),(7,[0,1,2,3],none),(8,[4,5,6,7],none),(9,[],none)]),(15,[(0,[],none),(1,[0],none),(2,[0],none),(3,[0,1,2],none),(4,[0],none),(5,[0],none),(6,[0,1,2,3,4,5],none),(7,[0,1,2,3,4,5],none),(8,[0],none),(9,[0,1,2,3,4,5,6,7,8],none),(10,[0,1,2,3,4,5,6,7,8],none),(11,[0,1,2,3,4,5,6,7,8],none),(12,[0,1,2,3,4,5,6,7,8],none),(13,[0],none),(14,[0,1,2,3,4,5,6,7,8,9,10,11,12,13],none),(15,[0,5,6,7,8,9,10,11,12,13],none),(16,[0,1,2,3,4,5,6,7,8,9,10,11,12,13,14,15],none),(17,[0,5,6,7,8,9,10,11,12,13],none),(18,[0,5,6,7,8,9,10,11,12,13],none),(19,[0,1,2,3,4,5,6,7,8,9,10,11,12,13,14,15,16,17,18],none),(20,[0,1,2,3,4,5,6,7,8,9,10,11,12,13,14,15,16,17,18],none),(21,[0,5,6,7,8,9,10,11,12,13],none),(22,[0],none),(23,[0,1,2,3,4,5,6,7,8,9,10,11,12,13,14,15,16,17,18,19,20,21,22],none),(24,[0,1,2,3,4,5,6,7,8,9,10,11,12,13,14,15,16,17,18,19,20,21,22],none),(25,[0,1,2,3,4,5,6,7,8,9,10,11,12,13,14,15,16,17,18,19,20,21,22],none),(26,[0,1,2,3,4,5,6,7,8,9,10,11,12,13,14,15,16,17,18,19,20,21,22],none),(27,[0],none),(28,[],none),(29,[],some [76])])]
def pl265 : List (Nat × Plan):=[(2,[(0,[],none),(1,[0],none),(2,[0],none),(3,[],none),(4,[0,1,2,3],none),(5,[0,1,2,3,4],none),(6,[4],none),(7,[],none),(8,[0,1,2,3,4,5,6,7],none),(9,[0,1,2,3,4,5,6,7,8],none),(10,[],some [8]),(11,[],some [9])]),(3,[(0,[],none),(1,[0],none),(2,[0,1],none),(3,[0],none),(4,[],none),(5,[],some [6])])]
def pl266 : List (Nat × Plan):=[(1,[(0,[],none),(1,[0],none),(2,[0,1],none),(3,[],none),(4,[],none),(5,[],some [4])])]
end Go.Proofs.YtololahjocfbeaaGreat
namespace Go.Proofs.YtololahjocfbeaaGreat
open Go Go.Sy Go.Proofs.Tryz
set_option maxRecDepth 100000
set_option maxHeartbeats 4000000
set_option linter.unusedSimpArgs false
set_option linter.unusedVariables false
theorem u8_mod (x : Int) : IntKind.u8.wrap x = x % 256:=by simp [IntKind.wrap,IntKind.signed,IntKind.bits]
theorem u64_mod (x : Int) : IntKind.u64.wrap x = x % 18446744073709551616:=by simp [IntKind.wrap,IntKind.signed,IntKind.bits]
def be (n : Int) : Nat → List Int
  | 0 => []
  | c + 1 => (n / 256 ^ c % 256) :: be n c
theorem be_len (n : Int) : ∀ c,(be n c).length = c
  | 0 => rfl
  | c + 1 => by simp [be,be_len n c]
theorem be_mem (n : Int) : ∀ c,∀ x ∈ be n c,0 ≤ x ∧ x < 256
  | 0,x,h => by cases h
  | c + 1,x,h => by
    simp only [be,List.mem_cons] at h
    rcases h with rfl | h
    · omega
    · exact be_mem n c x h
theorem set_front (m : Nat) (x : Int) (l : List Int) : (List.replicate (m + 1) 0 ++ l).set m x = List.replicate m 0 ++ x :: l:=by
  rw [List.replicate_succ',List.append_assoc,List.set_append_right _ _ (by simp),List.length_replicate,Nat.sub_self]
  rfl
theorem pow_next (n : Int) (c : Nat) : n / 256 ^ c / 256 = n / 256 ^ (c + 1):=by
  rw [Int.pow_succ,Int.ediv_ediv_of_nonneg (Int.le_of_lt (Int.pow_pos (by decide)))]
theorem number_spec (n size : Int) (s : Nat) (hs : max 0 (min size 64) = s) : FnC Tryz.prog 124 [.int .u64 n,.int .i64 size] [] (.osl 0 [] 1 0 s) [(0,.row (.ints .u8 s (be n s)))]:=by
  have h64 : s ≤ 64:=by omega
  refine fnN mix [] 0 2 [.tmp 4] Tryz.func124 rfl (by kernel_rfl) (by kernel_rfl) rfl (by kernel_rfl) (by kernel_rfl) (by simp) ?_
  simp -implicitDefEqProofs (disch:=omega) only [go_sem,↓reduceIte,hs]
  refine loop (ι:=Nat) 1 (fun c => c ≤ s) (fun c => [(0,.int .u64 (n / 256 ^ c)),(5,.osl 0 [] 1 0 s),(6,.int .i64 (s - 1 - c))]) (fun c => [(0,.row (.ints .u8 s (List.replicate (s - c) 0 ++ be n c)))]) (fun c => s - c) 0 [(0,0)] [] (Nat.zero_le _) rfl ?_ ?_ ?_ (fun c hc => ?_)
  · simp -implicitDefEqProofs (disch:=omega) only [go_sem,↓reduceIte]
  · simp -implicitDefEqProofs (disch:=omega) only [go_sem,↓reduceIte,Int.pow_zero,Int.ediv_one]
  · simp -implicitDefEqProofs (disch:=omega) only [go_sem,↓reduceIte,be]
  simp -implicitDefEqProofs (disch:=omega) only [go_sem,↓reduceIte]
  refine brd (fun h => ?_) (fun h => ?_)
  · have e1 : ((s : Int) - 1 - c).toNat = s - (c + 1):=by omega
    have e2 : ishr .u64 (n / 256 ^ c) 8 = n / 256 ^ (c + 1):=by rw [ishr_div _ _ 8 (by decide)]; exact pow_next n c
    have e3 : (s : Int) - 1 - c - 1 = s - 1 - (c + 1):=by omega
    have e4 : (List.replicate (s - c) 0 ++ be n c).set (s - (c + 1)) (n / 256 ^ c % 256) = List.replicate (s - (c + 1)) 0 ++ be n (c + 1):=by
      rw [show s - c = s - (c + 1) + 1 by omega]
      exact set_front _ _ _
    simp -implicitDefEqProofs (disch:=omega) only [go_sem,↓reduceIte,e1,e2,e3,u8_mod]
    refine ⟨c + 1,[(0,0)],[],[],by dsimp only; omega,by dsimp only; omega,rfl,?_,?_,?_⟩ <;> simp -implicitDefEqProofs (disch:=omega) only [go_sem,↓reduceIte,e4]
  obtain rfl : c = s:=by omega
  simp -implicitDefEqProofs (disch:=omega) only [go_sem,↓reduceIte]
  refine ⟨[(0,0)],[],[],rfl,?_,?_,?_⟩ <;> simp -implicitDefEqProofs (disch:=omega) only [go_sem,↓reduceIte,Nat.sub_self,List.replicate_zero,List.nil_append]
def ofb (xs : List Int) : Int:=xs.foldl (fun n x => n * 256 + x) 0
theorem ofb_bound : ∀ (xs : List Int) (a : Int) (k : Nat),(∀ x ∈ xs,0 ≤ x ∧ x < 256) → 0 ≤ a → a < 256 ^ k → 0 ≤ xs.foldl (fun n x => n * 256 + x) a ∧ xs.foldl (fun n x => n * 256 + x) a < 256 ^ (k + xs.length)
  | [],a,k,_,h0,h1 => ⟨h0,h1⟩
  | x :: xs,a,k,h,h0,h1 => by
    have hx:=h x (by simp)
    have:=ofb_bound xs (a * 256 + x) (k + 1) (fun y hy => h y (by simp [hy])) (by omega) (by rw [Int.pow_succ]; omega)
    rw [List.length_cons,show k + (xs.length + 1) = k + 1 + xs.length by omega]
    exact this
theorem foldl_take_succ' {α : Type} (f : α → Int → α) (a : α) (xs : List Int) (i : Nat) (h : i < xs.length) : (xs.take (i + 1)).foldl f a = f ((xs.take i).foldl f a) (xs.getD i 0):=by
  rw [List.take_add_one,List.foldl_append,List.getElem?_eq_getElem h]
  simp [List.getD,List.getElem?_eq_getElem h]
theorem getD_all' {p : Int → Prop} {xs : List Int} (h : ∀ x ∈ xs,p x) {i : Nat} (hi : i < xs.length) : p (xs.getD i 0):=by
  simp only [List.getD,List.getElem?_eq_getElem hi,Option.getD_some]
  exact h _ (List.getElem_mem hi)
theorem ofb_succ {xs : List Int} {i : Nat} (h : i < xs.length) : ofb (xs.take (i + 1)) = ofb (xs.take i) * 256 + xs.getD i 0:=foldl_take_succ' _ _ _ _ h
theorem ofb_lt {xs : List Int} (hb : ∀ x ∈ xs,0 ≤ x ∧ x < 256) (i : Nat) : 0 ≤ ofb (xs.take i) ∧ ofb (xs.take i) < 256 ^ i:=by
  have:=ofb_bound (xs.take i) 0 0 (fun x hx => hb x (List.mem_of_mem_take hx)) (by omega) (by decide)
  have h2 : (256 : Int) ^ (0 + (xs.take i).length) ≤ 256 ^ i:=by
    have:=Nat.pow_le_pow_right (show 0 < 256 by decide) (show 0 + (xs.take i).length ≤ i by rw [List.length_take]; omega)
    exact_mod_cast this
  exact ⟨this.1,Int.lt_of_lt_of_le this.2 h2⟩
theorem shl_or {a x : Int} (ha : 0 ≤ a) (ha' : a < 72057594037927936) (hx : 0 ≤ x) (hx' : x < 256) : ior .u64 (ishl .u64 a 8) x = a * 256 + x:=by
  have e : ishl .u64 a 8 = a * 256:=by
    unfold ishl
    have h8 : (2 : Int) ^ (min 8 IntKind.u64.bits) = 256:=by decide
    rw [h8]
    exact wrap_u64 (by omega) (by omega)
  rw [e,ior_nat (by omega) (by show _ < (2 : Int) ^ 64; omega) hx (by show _ < (2 : Int) ^ 64; omega)]
  have h:=Nat.shiftLeft_add_eq_or_of_lt (i:=8) (b:=x.toNat) (by omega) a.toNat
  have e2 : (a * 256).toNat = a.toNat <<< 8:=by rw [Nat.shiftLeft_eq]; omega
  rw [e2,← h,Nat.shiftLeft_eq]
  rw [wrap_u64 (by omega) (by omega)]
  omega
theorem pof_spec (xs : List Int) (hl : xs.length ≤ 8) (hb : ∀ x ∈ xs,0 ≤ x ∧ x < 256) : FnC Tryz.prog 187 [.sl (.ints .u8 xs.length xs)] [] (.tup [.int .u64 (ofb xs),.int .i64 0]) []:=by
  refine fn0 mix [] 0 1 [.tmp 2,.tmp 3] Tryz.func187 rfl (by kernel_rfl) (by kernel_rfl) rfl (by kernel_rfl) (by kernel_rfl) (by simp) ?_
  simp -implicitDefEqProofs (disch:=omega) only [go_sem,↓reduceIte]
  refine brd (fun h => by omega) (fun h => ?_)
  simp -implicitDefEqProofs (disch:=omega) only [go_sem,↓reduceIte]
  refine loop (ι:=Nat) 0 (fun i => i ≤ xs.length) (fun i => [(10,.sl (.ints .u8 xs.length xs)),(11,.int .i64 xs.length),(12,.int .i64 i),(4,.int .u64 (ofb (xs.take i)))]) (fun i => []) (fun i => xs.length - i) 0 [] [] (Nat.zero_le _) rfl ?_ ?_ ?_ (fun i hi => ?_)
  · simp -implicitDefEqProofs (disch:=omega) only [go_sem,↓reduceIte]
  · simp -implicitDefEqProofs (disch:=omega) only [go_sem,↓reduceIte,List.take_zero,ofb,List.foldl_nil]
  · simp -implicitDefEqProofs (disch:=omega) only [go_sem,↓reduceIte]
  simp -implicitDefEqProofs (disch:=omega) only [go_sem,↓reduceIte]
  refine brd (fun h => ?_) (fun h => ?_)
  · have hx:=getD_all' hb (show i < xs.length by omega)
    have hp:=ofb_lt hb i
    have hp2 : (256 : Int) ^ i ≤ 256 ^ 7:=by
      have:=Nat.pow_le_pow_right (show 0 < 256 by decide) (show i ≤ 7 by omega)
      exact_mod_cast this
    have e1:=shl_or hp.1 (Int.lt_of_lt_of_le hp.2 hp2) hx.1 hx.2
    simp -implicitDefEqProofs (disch:=omega) only [go_sem,↓reduceIte,e1]
    refine ⟨i + 1,[],[],[],by dsimp only; omega,by dsimp only; omega,rfl,?_,?_,?_⟩ <;> simp -implicitDefEqProofs (disch:=omega) only [go_sem,↓reduceIte,ofb_succ]
  obtain rfl : i = xs.length:=by omega
  rw [List.take_length]
  simp -implicitDefEqProofs (disch:=omega) only [go_sem,↓reduceIte]
theorem be_snoc (n : Int) : ∀ c,be n (c + 1) = be (n / 256) c ++ [n % 256]
  | 0 => by simp [be]
  | c + 1 => by
    have:=be_snoc n c
    rw [be,this,be,List.cons_append]
    congr 2
    rw [← pow_next]
    rw [Int.ediv_ediv_of_nonneg (Int.le_of_lt (Int.pow_pos (by decide))),Int.ediv_ediv_of_nonneg (by decide),Int.mul_comm]
theorem ofb_snoc (xs : List Int) (x : Int) : ofb (xs ++ [x]) = ofb xs * 256 + x:=by simp [ofb,List.foldl_append]
theorem ofb_be : ∀ (c : Nat) (n : Int),ofb (be n c) = n % 256 ^ c
  | 0,n => by simp [be,ofb]
  | c + 1,n => by
    rw [be_snoc,ofb_snoc,ofb_be c,Int.pow_succ,Int.mul_comm (256 ^ c) 256]
    have hM : (0 : Int) ≤ 256 ^ c:=Int.le_of_lt (Int.pow_pos (by decide))
    rw [Int.emod_def n (256 * 256 ^ c),Int.emod_def (n / 256),← Int.ediv_ediv_of_nonneg (by decide : (0 : Int) ≤ 256),Int.mul_assoc]
    generalize (256 : Int) ^ c * (n / 256 / 256 ^ c) = t
    omega
theorem getP_map {α : Type} {f : α → AV} {l : List α} {i : Nat} {a : α} (h : l[i]? = some a) (K : AV → Prop) : getP (l.map f) i K = K (f a):=by simp [getP,h]
def bsl (b : List Int) : AV:=.sl (.ints .u8 b.length b)
def rowb (n : Nat) (bs : List (List Int)) : List Int:=be n 2 ++ bs.flatMap fun b => be b.length 2 ++ b
theorem rowb_succ {n : Nat} {bs : List (List Int)} {i : Nat} {b : List Int} (h : bs[i]? = some b) : rowb n (bs.take (i + 1)) = rowb n (bs.take i) ++ be b.length 2 ++ b:=by
  unfold rowb
  rw [List.take_add_one,h,List.flatMap_append]
  simp only [Option.toList_some,List.flatMap_cons,List.flatMap_nil,List.append_nil,List.append_assoc]
theorem rowb_len (n : Nat) {bs : List (List Int)} (hb : ∀ b ∈ bs,b.length ≤ 65535) : ∀ i,i ≤ bs.length → (rowb n (bs.take i)).length ≤ 2 + i * 65537
  | 0,_ => by simp [rowb,be_len]
  | i + 1,h => by
    have hi:=List.getElem?_eq_getElem (show i < bs.length by omega)
    have:=rowb_len n hb i (by omega)
    have hl:=hb _ (List.getElem_mem (show i < bs.length by omega))
    rw [rowb_succ hi]
    simp only [List.length_append,be_len]
    omega
theorem prow_spec (bs : List (List Int)) (hn : bs.length ≤ 65535) (hb : ∀ b ∈ bs,b.length ≤ 65535) : FnC Tryz.prog 125 [.sl (.lst 1 bs.length (bs.map bsl))] [] (.tup [.osl 0 [] 1 0 (rowb bs.length bs).length,.int .i64 0]) [(0,.row (.ints .u8 (rowb bs.length bs).length (rowb bs.length bs)))]:=by
  refine fnN mix [] 0 1 [.tmp 2,.tmp 3] Tryz.func125 rfl (by kernel_rfl) (by kernel_rfl) rfl (by kernel_rfl) (by kernel_rfl) (by simp) ?_
  simp -implicitDefEqProofs (disch:=omega) only [go_sem,↓reduceIte]
  refine brd (fun h => by omega) (fun h => ?_)
  simp -implicitDefEqProofs (disch:=omega) only [go_sem,↓reduceIte]
  refine callF 1 (number_spec _ 2 2 rfl) ?_
  simp -implicitDefEqProofs (disch:=omega) only [go_sem,↓reduceIte]
  refine loop (ι:=Nat) 1 (fun i => i ≤ bs.length) (fun i => [(14,.sl (.lst 1 bs.length (bs.map bsl))),(15,.int .i64 bs.length),(16,.int .i64 i),(4,.osl 0 [] 1 0 (rowb bs.length (bs.take i)).length)]) (fun i => [(0,.row (.ints .u8 (rowb bs.length (bs.take i)).length (rowb bs.length (bs.take i))))]) (fun i => bs.length - i) 0 [(0,0)] [] (Nat.zero_le _) rfl ?_ ?_ ?_ (fun i hi => ?_)
  · simp -implicitDefEqProofs (disch:=omega) only [go_sem,↓reduceIte]
  · simp -implicitDefEqProofs (disch:=omega) only [go_sem,↓reduceIte,rowb,List.take_zero,List.flatMap_nil,be_len]
  · simp -implicitDefEqProofs (disch:=omega) only [go_sem,↓reduceIte,rowb,List.take_zero,List.flatMap_nil,be_len]
  simp -implicitDefEqProofs (disch:=omega) only [go_sem,↓reduceIte]
  refine brd (fun h => ?_) (fun h => ?_)
  · have hi':=List.getElem?_eq_getElem (show i < bs.length by omega)
    have hl:=hb _ (List.getElem_mem (show i < bs.length by omega))
    have hs:=rowb_succ (n:=bs.length) hi'
    have hlen:=rowb_len bs.length hb i (by omega)
    have hg:=fun K => getP_map (f:=bsl) hi' K
    generalize bs[i]'(show i < bs.length by omega) = b at *
    simp -implicitDefEqProofs (disch:=omega) only [go_sem,↓reduceIte,hg,bsl]
    refine brd (fun h => by omega) (fun h => ?_)
    simp -implicitDefEqProofs (disch:=omega) only [go_sem,↓reduceIte]
    refine callF 1 (number_spec _ 2 2 rfl) ?_
    simp -implicitDefEqProofs (disch:=omega) only [go_sem,↓reduceIte]
    refine ⟨i + 1,[(0,3)],[],[],by dsimp only; omega,by dsimp only; omega,rfl,?_,?_,?_⟩ <;> simp -implicitDefEqProofs (disch:=omega) only [go_sem,↓reduceIte,hs,List.length_append,be_len]
  obtain rfl : i = bs.length:=by omega
  rw [List.take_length]
  simp -implicitDefEqProofs (disch:=omega) only [go_sem,↓reduceIte]
  refine ⟨[(0,0)],[],[],rfl,?_,?_,?_⟩ <;> simp -implicitDefEqProofs (disch:=omega) only [go_sem,↓reduceIte]
theorem for_spec (xs : List Int) (w : Int) : FnC Tryz.prog 244 [.ints .u32 8 xs,.int .u32 w] [] (.ints .u32 8 (xs.set 7 w)) []:=by
  refine fn0 mix [] 0 2 [.cell 4 282] Tryz.func244 rfl (by kernel_rfl) (by kernel_rfl) rfl (by kernel_rfl) (by kernel_rfl) (by simp) ?_
  simp -implicitDefEqProofs only [go_sem,↓reduceIte]
theorem at_spec (xs : List Int) (a b : Int) : FnC Tryz.prog 223 [.ints .u32 8 xs,.int .u32 a,.int .u32 b] [] (.ints .u32 8 (((xs.set 5 a).set 6 b).set 7 0)) []:=by
  refine fn0 mix [] 0 3 [.cell 6 282] Tryz.func223 rfl (by kernel_rfl) (by kernel_rfl) rfl (by kernel_rfl) (by kernel_rfl) (by simp) ?_
  simp -implicitDefEqProofs only [go_sem,↓reduceIte]
def base (l a k f : Int) : List Int:=[l,IntKind.u32.wrap (ishr .u64 a 32),IntKind.u32.wrap a,k,f,0,0,0]
theorem base_spec (l a k f : Int) : FnC Tryz.prog 224 [.int .u32 l,.int .u64 a,.int .u32 k,.int .u32 f] [] (.ints .u32 8 (base l a k f)) []:=by
  refine fn0 mix [] 0 4 [.cell 8 282] Tryz.func224 rfl (by kernel_rfl) (by kernel_rfl) rfl (by kernel_rfl) (by kernel_rfl) (by simp) ?_
  simp -implicitDefEqProofs only [go_sem,↓reduceIte]
  simp [base]
theorem ots_spec (l a f : Int) : FnC Tryz.prog 221 [.int .u32 l,.int .u64 a,.int .u32 f] [] (.ints .u32 8 (base l a 0 f)) []:=by
  refine fn0 mix [] 0 3 [.cell 6 282] Tryz.func221 rfl (by kernel_rfl) (by kernel_rfl) rfl (by kernel_rfl) (by kernel_rfl) (by simp) ?_
  simp -implicitDefEqProofs only [go_sem,↓reduceIte]
  refine call0 (base_spec _ _ _ _) ?_
  simp -implicitDefEqProofs only [go_sem,↓reduceIte]
theorem ltree_spec (l a f : Int) : FnC Tryz.prog 175 [.int .u32 l,.int .u64 a,.int .u32 f] [] (.ints .u32 8 (base l a 1 f)) []:=by
  refine fn0 mix [] 0 3 [.cell 6 282] Tryz.func175 rfl (by kernel_rfl) (by kernel_rfl) rfl (by kernel_rfl) (by kernel_rfl) (by simp) ?_
  simp -implicitDefEqProofs only [go_sem,↓reduceIte]
  refine call0 (base_spec _ _ _ _) ?_
  simp -implicitDefEqProofs only [go_sem,↓reduceIte]
theorem tree_spec (l a : Int) : FnC Tryz.prog 247 [.int .u32 l,.int .u64 a] [] (.ints .u32 8 (base l a 2 0)) []:=by
  refine fn0 mix [] 0 2 [.cell 4 282] Tryz.func247 rfl (by kernel_rfl) (by kernel_rfl) rfl (by kernel_rfl) (by kernel_rfl) (by simp) ?_
  simp -implicitDefEqProofs only [go_sem,↓reduceIte]
  refine call0 (base_spec _ _ _ _) ?_
  simp -implicitDefEqProofs only [go_sem,↓reduceIte]
theorem wrap_u32' (n : Int) : IntKind.u32.wrap n = n % 4294967296:=by
  simp [IntKind.wrap,IntKind.signed,IntKind.bits]
def bytesA (ws : List Int) : List Int:=ws.flatMap fun w => be w 4
theorem bytesA_len : ∀ ws : List Int,(bytesA ws).length = 4 * ws.length
  | [] => rfl
  | w :: ws => by
    have:=bytesA_len ws
    simp only [bytesA,List.flatMap_cons,List.length_append,be_len,List.length_cons] at this ⊢
    omega
theorem bytesA_succ {ws : List Int} {i : Nat} (h : i < ws.length) : bytesA (ws.take (i + 1)) = bytesA (ws.take i) ++ be (ws.getD i 0) 4:=by
  unfold bytesA
  rw [List.take_add_one,List.flatMap_append,List.getElem?_eq_getElem h]
  simp only [Option.toList_some,List.flatMap_cons,List.flatMap_nil,List.append_nil,List.getD,List.getElem?_eq_getElem h,Option.getD_some]
theorem bytes_spec (ws : List Int) (hl : ws.length = 8) (hw : ∀ w ∈ ws,0 ≤ w ∧ w < 4294967296) : FnC Tryz.prog 260 [.ints .u32 8 ws] [] (.osl 0 [] 1 0 32) [(0,.row (.ints .u8 32 (bytesA ws)))]:=by
  refine fnN mix [] 0 1 [.tmp 2] Tryz.func260 rfl (by kernel_rfl) (by kernel_rfl) rfl (by kernel_rfl) (by kernel_rfl) (by simp) ?_
  simp -implicitDefEqProofs (disch:=omega) only [go_sem,↓reduceIte]
  refine loop (ι:=Nat) 1 (fun i => i ≤ 8) (fun i => [(6,.ints .u32 8 ws),(7,.int .i64 i),(3,.osl 0 [] 1 0 (4 * i))]) (fun i => [(0,.row (.ints .u8 (4 * i) (bytesA (ws.take i))))]) (fun i => 8 - i) 0 [] [0] (Nat.zero_le _) rfl ?_ ?_ ?_ (fun i hi => ?_)
  · simp -implicitDefEqProofs (disch:=omega) only [go_sem,↓reduceIte]
  · simp -implicitDefEqProofs (disch:=omega) only [go_sem,↓reduceIte]
  · simp -implicitDefEqProofs (disch:=omega) only [go_sem,↓reduceIte,List.take_zero,bytesA,List.flatMap_nil]
  simp -implicitDefEqProofs (disch:=omega) only [go_sem,↓reduceIte]
  refine brd (fun h => ?_) (fun h => ?_)
  · have hx:=getD_all' hw (show i < ws.length by omega)
    have hs:=bytesA_succ (show i < ws.length by omega)
    simp -implicitDefEqProofs (disch:=omega) only [go_sem,↓reduceIte]
    refine callF 1 (number_spec _ 4 4 rfl) ?_
    simp -implicitDefEqProofs (disch:=omega) only [go_sem,↓reduceIte]
    refine ⟨i + 1,[(0,2)],[],[],by dsimp only; omega,by dsimp only; omega,rfl,?_,?_,?_⟩ <;> simp -implicitDefEqProofs (disch:=omega) only [go_sem,↓reduceIte,hs,Nat.mul_add]
  obtain rfl : i = 8:=by omega
  simp -implicitDefEqProofs (disch:=omega) only [go_sem,↓reduceIte,List.take_of_length_le]
  refine ⟨[(0,0)],[],[],rfl,?_,?_,?_⟩ <;> simp -implicitDefEqProofs (disch:=omega) only [go_sem,↓reduceIte,List.take_of_length_le]
def words : Nat → List Int → List Int
  | 0,_ => []
  | k + 1,xs => ofb (xs.take 4) :: words k (xs.drop 4)
theorem words_len : ∀ (k : Nat) (xs : List Int),(words k xs).length = k
  | 0,_ => rfl
  | k + 1,xs => by simp [words,words_len k]
theorem words_get : ∀ (k i : Nat) (xs : List Int),i < k → (words k xs).getD i 0 = ofb ((xs.drop (4 * i)).take 4)
  | 0,i,xs,h => by omega
  | k + 1,0,xs,h => by simp [words]
  | k + 1,i + 1,xs,h => by
    have:=words_get k i (xs.drop 4) (by omega)
    rw [words,List.getD_cons_succ,this,List.drop_drop,show 4 + 4 * i = 4 * (i + 1) by omega]
theorem words_mem : ∀ (k : Nat) (xs : List Int),(∀ x ∈ xs,0 ≤ x ∧ x < 256) → ∀ w ∈ words k xs,0 ≤ w ∧ w < 4294967296
  | 0,xs,_,w,h => by cases h
  | k + 1,xs,hb,w,h => by
    simp only [words,List.mem_cons] at h
    rcases h with rfl | h
    · have:=ofb_lt hb 4
      have e : (256 : Int) ^ 4 = 4294967296:=by decide
      rw [e] at this
      exact this
    · exact words_mem k (xs.drop 4) (fun x hx => hb x (List.mem_of_mem_drop hx)) w h
theorem set_step {ws : List Int} {k i : Nat} (hl : ws.length = k) (hi : i < k) {x : Int} (hx : ws.getD i 0 = x) : (ws.take i ++ List.replicate (k - i) 0).set i x = ws.take (i + 1) ++ List.replicate (k - (i + 1)) 0:=by
  subst hx
  have e : k - i = k - (i + 1) + 1:=by omega
  have ht : List.take (i + 1) ws = List.take i ws ++ [ws.getD i 0]:=by
    rw [List.take_add_one,List.getElem?_eq_getElem (show i < ws.length by omega)]
    simp only [Option.toList_some,List.getD,List.getElem?_eq_getElem (show i < ws.length by omega),Option.getD_some]
  rw [e,List.replicate_succ,List.set_append_right _ _ (by rw [List.length_take]; omega),List.length_take,show i - min i ws.length = 0 by omega,List.set_cons_zero,ht,List.append_assoc]
  rfl
end Go.Proofs.YtololahjocfbeaaGreat
